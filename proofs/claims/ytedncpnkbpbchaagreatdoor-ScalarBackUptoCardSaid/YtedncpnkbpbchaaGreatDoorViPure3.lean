/-
  The verified interpreter: structs held against each other, bytes to a string, a struct's or an array's literal.
-/
import Derived.Test.YtedncpnkbpbchaaGreatDoorViPure2
import Derived.Laws.BytesString
set_option linter.unusedVariables false
set_option linter.unusedSimpArgs false
namespace Go.Vi
open Go.RowKit

section
variable {P : Program} {gl : Nat → Option D} {W0 w0 : World} {G0 : Gh} {N : Nat} {G : Gh} {Bf : Nat → Nat} {rs : RS} {a : Act} {w : World} {cf : Nat → List V → Option V} {dst : Option Nat} {e : Eff}

theorem eqFields_ints {d : Nat} {vs us : Array Value} : ∀ (fs : List Field) (k : Nat) (as bs : List D) (r : Bool), intFields P k fs = true → fs.length = as.length → sameInts as bs = some r →
    (∀ i x, as[i]? = some x → ∃ v, vs[k + i]? = some v ∧ RelD w G.E v x) → (∀ i x, bs[i]? = some x → ∃ v, us[k + i]? = some v ∧ RelD w G.E v x) →
    (Op.eqFields (d + 1) vs us fs).run P w = .ok r w
  | [], k, as, bs, r, hi, hl, hs, ha, hb => by
    cases as <;> simp at hl
    cases bs <;> simp [sameInts] at hs
    subst hs
    simp [Op.eqFields]
  | f :: fs, k, as, bs, r, hi, hl, hs, ha, hb => by
    cases as with
    | nil => simp at hl
    | cons x as =>
      cases x <;> try (cases bs <;> simp [sameInts] at hs; done)
      case int ka ia =>
        cases bs with
        | nil => simp [sameInts] at hs
        | cons y bs =>
          cases y <;> try (simp [sameInts] at hs; done)
          case int kb ib =>
            simp only [sameInts, Option.ite_none_right_eq_some, Option.map_eq_some_iff] at hs
            obtain ⟨rfl, r', hs', hr⟩ := hs
            simp only [intFields, Bool.and_eq_true, beq_iff_eq, bne_iff_ne, ne_eq] at hi
            obtain ⟨⟨⟨ho, hn⟩, ht⟩, hi'⟩ := hi
            obtain ⟨k', inf, hu, hinf⟩ : ∃ k' inf, P.underlying f.type = some (.int k') ∧ P.info? f.type = some inf := by
              cases hu : P.underlying f.type with
              | none => rw [hu] at ht; cases ht
              | some dd =>
                rw [hu] at ht
                cases dd <;> try (simp only [Bool.false_eq_true] at ht; done)
                case int k' =>
                  cases hq : P.info? f.type with
                  | none => rw [hq] at ht; cases ht
                  | some inf => exact ⟨k', inf, rfl, rfl⟩
            have ih := eqFields_ints (d := d) (vs := vs) (us := us) fs (k + 1) as bs r' hi' (by simpa using hl) hs'
              (fun i x hx => by rw [show k + 1 + i = k + (i + 1) by omega]; exact ha (i + 1) x (by simpa using hx)) (fun i x hx => by rw [show k + 1 + i = k + (i + 1) by omega]; exact hb (i + 1) x (by simpa using hx))
            obtain ⟨va, hva, hra⟩ := ha 0 _ rfl
            obtain ⟨vb, hvb, hrb⟩ := hb 0 _ rfl
            have e1 := relD_int hra; have e2 := relD_int hrb
            subst e1; subst e2
            rw [Nat.add_zero] at hva hvb
            have hp1 : (part f.type vs f.offset).run P w = .ok (.int ka ia) w := by
              rw [ho]; simp [part, run_isAgg (b := false) hu rfl, hva]
            have hp2 : (part f.type us f.offset).run P w = .ok (.int ka ib) w := by
              rw [ho]; simp [part, run_isAgg (b := false) hu rfl, hvb]
            have hq := run_equalIn_int w d f.type ka k' ia ib hu
            cases hab : ia == ib
            · simp [hab] at hr; subst hr; simp [Op.eqFields, hn, hp1, hp2, hq, hab]
            · simp [hab] at hr; subst hr; simp [Op.eqFields, hn, hp1, hp2, hq, hab, ih]

theorem eqs_sound (h : Sim gl W0 w0 G0 N G Bf rs a w) {o : Oper} {neg : Bool} {n : Nat} {x y : Opd} (hc : chkOp P o.op (.eqs neg n x y) = true) (he : eff gl cf dst rs (.eqs neg n x y) = some e) : PureOK P a w G Bf rs o e := by
  obtain ⟨_, op, ty, pos, after, guard⟩ := o
  cases op <;> try (simp only [chkOp, Bool.false_eq_true] at hc; done)
  case binOp bo' t x' y' yt =>
    simp only [chkOp, Bool.and_eq_true, beq_iff_eq] at hc
    obtain ⟨⟨⟨rfl, h1⟩, h2⟩, h3⟩ := hc
    split at h3
    case h_2 => cases h3
    case h_1 fs hu =>
      simp only [Bool.and_eq_true, beq_iff_eq, Bool.not_eq_true'] at h3
      obtain ⟨⟨⟨hif, hn⟩, hst⟩, hg⟩ := h3
      have hf : P.fieldsOf t = fs := by simp [Program.fieldsOf, hu]
      simp only [eff] at he
      split at he
      case h_2 => cases he
      case h_1 as bs hx hy =>
        simp only [Option.ite_none_right_eq_some, Option.map_eq_some_iff] at he
        obtain ⟨hl, r, hr, rfl⟩ := he
        have ra := h.evD h1 hx
        have rb := h.evD h2 hy
        generalize hva : a.eval x' = va at ra
        generalize hvb : a.eval y' = vb at rb
        cases ra with
        | agg vs _ hs1 hna1 hr1 =>
          cases rb with
          | agg us _ hs2 hna2 hr2 =>
            have key : (Op.equalIn 10000 t (.agg vs) (.agg us)).run P w = .ok r w := by
              have := run_equalIn_struct w 9999 t vs us (by rw [hf]; exact hu) hst
              rw [show (10000 : Nat) = 9999 + 1 from rfl, this, hf]
              refine eqFields_ints (G := G) (d := 9998) fs.toList 0 as bs r hif (by simp [hn, hl]) hr (fun i x hx => ?_) (fun i x hx => ?_)
              · have := lt_of_get hx
                exact ⟨vs.getD i undef, by simp [hs1, this], hr1 i x hx⟩
              · have := lt_of_get hx
                exact ⟨us.getD i undef, by simp [hs2, this], hr2 i x hx⟩
            cases neg
            · exact .data (v := .bool r) (by simp only [execOp, hva, hvb, Sem.run_bind, run_eqGuard_agg w _ t x' y' vs us hg, Result.andThen_ok, Bool.false_eq_true, if_false, run_eql_struct, key]; rfl) (.bool _)
            · exact .data (v := .bool (!r)) (by simp only [execOp, hva, hvb, Sem.run_bind, run_eqGuard_agg w _ t x' y' vs us hg, Result.andThen_ok, if_true, run_neq_struct, key]; rfl) (.bool _)

theorem bytes_ints : ∀ {xs : List D} {s : List UInt8}, bytesOf xs = some s → ∃ ns : List Int, xs = ns.map (D.int .u8) ∧ s = ns.map fun n => UInt8.ofNat n.toNat
  | [], s, h => by simp [bytesOf] at h; exact ⟨[], rfl, h⟩
  | x :: xs, s, h => by
    simp only [bytesOf, Option.bind_eq_some_iff, Option.some.injEq] at h
    obtain ⟨b, hb, bs, hbs, rfl⟩ := h
    obtain ⟨ns, rfl, rfl⟩ := bytes_ints hbs
    cases x <;> simp only [byteOf, reduceCtorEq] at hb
    case int k n =>
      cases k <;> simp only [reduceCtorEq, Option.some.injEq] at hb
      subst hb
      exact ⟨n :: ns, rfl, rfl⟩

theorem flat_ints (ns : List Int) (k : IntKind) : flat (ns.map (D.int k)) = ns.map (D.int k) := by
  induction ns with
  | nil => rfl
  | cons n r ih => simp only [flat, List.map_cons, List.flatMap_cons, D.cells] at ih ⊢; rw [ih]; rfl

theorem cstr_sound (h : Sim gl W0 w0 G0 N G Bf rs a w) {o : Oper} {x : Opd} (hc : chkOp P o.op (.cstr x) = true) (he : eff gl cf dst rs (.cstr x) = some e) : PureOK P a w G Bf rs o e := by
  obtain ⟨_, op, ty, pos, after, guard⟩ := o
  cases op <;> try (simp only [chkOp, Bool.false_eq_true] at hc; done)
  case convert src dt y =>
    simp only [chkOp, Bool.and_eq_true] at hc
    obtain ⟨⟨h1, h2⟩, h3⟩ := hc
    split at h2
    case h_2 => cases h2
    case h_1 el hu =>
      split at h2
      case h_2 => cases h2
      case h_1 hue =>
        split at h3
        case h_2 => cases h3
        case h_1 hud =>
          simp only [eff] at he
          split at he
          case h_2 => cases he
          case h_1 sz xs hx =>
            simp only [Option.map_eq_some_iff] at he
            obtain ⟨s, hs, rfl⟩ := he
            obtain ⟨ns, rfl, rfl⟩ := bytes_ints hs
            obtain ⟨A, c, hv, hcc, hcell⟩ := relD_slice (h.evD h1 hx)
            have fin : (convert src dt (a.eval y)).run P w = .ok (.string (strOfNums ns)) w := by
              rw [hv]
              rcases ns with _ | ⟨n, r⟩
              · rw [run_convert_bytes_string w src dt el A _ c hu hue hud]
                rcases A with _ | A
                · simp [Conv.bytesToString, strOfNums]; rfl
                · simp [Conv.bytesToString, strOfNums, loadCells, loadCellsFrom]; rfl
              · obtain ⟨b, off, rfl, hsz, e1, vals, hE, hle, hna, hcl⟩ := hcell (by simp)
                rw [flat_ints] at hcl
                simp only [List.length_map]
                refine run_convert_bytes_arg w src el hu hue b off _ c (n :: r) rfl (fun i hi => ?_) dt hud
                obtain ⟨g1, g2⟩ := hcl i (.int .u8 ((n :: r).getD i 0)) (by rw [List.getElem?_map, List.getElem?_eq_getElem hi]; simp [List.getD, List.getElem?_eq_getElem hi])
                rw [g1, relD_int g2]
            exact .data (v := .string (strOfNums ns)) (by simp [execOp, fin]) (.str _)

theorem setAt_spec : ∀ (ds cs : List D) (off : Nat), off + ds.length ≤ cs.length → (setAt cs off ds).length = cs.length ∧ ∀ k : Nat, (setAt cs off ds)[k]? = if off ≤ k ∧ k < off + ds.length then ds[k - off]? else cs[k]?
  | [], cs, off, h => ⟨rfl, fun k => by rw [if_neg (by simp only [List.length_nil]; omega)]; rfl⟩
  | d :: ds, cs, off, h => by
    simp only [List.length_cons] at h
    obtain ⟨h1, h2⟩ := setAt_spec ds (cs.set off d) (off + 1) (by simp; omega)
    refine ⟨by simp [setAt, h1], fun k => ?_⟩
    simp only [setAt, h2, List.length_cons]
    by_cases hk : k = off
    · subst hk
      rw [if_neg (by omega), if_pos (by omega), List.getElem?_set_self (by omega)]
      simp
    · by_cases hk2 : off + 1 ≤ k ∧ k < off + 1 + ds.length
      · rw [if_pos hk2, if_pos (by omega), show k - off = (k - (off + 1)) + 1 by omega]; simp
      · rw [if_neg hk2, if_neg (by omega), List.getElem?_set_ne (Ne.symm hk)]


/-- The model's 'fill' by cells. -/
theorem foldl_set (cs : List (Value × Nat)) : True := trivial

theorem real_set : ∀ (vs : List Value) (off : Nat) (cells : Array Value), off + vs.length ≤ cells.size →
    ((vs.zipIdx).foldl (fun cs (c, j) => cs.setIfInBounds (off + j) c) cells).size = cells.size ∧
    ∀ k : Nat, ((vs.zipIdx).foldl (fun cs (c, j) => cs.setIfInBounds (off + j) c) cells)[k]? = if off ≤ k ∧ k < off + vs.length then vs[k - off]? else cells[k]? := by
  have gen : ∀ (vs : List Value) (off j0 : Nat) (cells : Array Value), off + j0 + vs.length ≤ cells.size →
      ((vs.zipIdx j0).foldl (fun cs (c, j) => cs.setIfInBounds (off + j) c) cells).size = cells.size ∧
      ∀ k : Nat, ((vs.zipIdx j0).foldl (fun cs (c, j) => cs.setIfInBounds (off + j) c) cells)[k]? = if off + j0 ≤ k ∧ k < off + j0 + vs.length then vs[k - (off + j0)]? else cells[k]? := by
    intro vs
    induction vs with
    | nil => intro off j0 cells h; exact ⟨rfl, fun k => by simp only [List.zipIdx_nil, List.foldl_nil, List.length_nil]; rw [if_neg (by omega)]⟩
    | cons v vs ih =>
      intro off j0 cells h
      simp only [List.length_cons] at h
      obtain ⟨h1, h2⟩ := ih off (j0 + 1) (cells.setIfInBounds (off + j0) v) (by simp; omega)
      refine ⟨by simp only [List.zipIdx_cons, List.foldl_cons]; rw [h1]; simp, fun k => ?_⟩
      simp only [List.zipIdx_cons, List.foldl_cons, h2, List.length_cons]
      by_cases hk : k = off + j0
      · subst hk
        rw [if_neg (by omega), if_pos (by omega)]
        simp [show off + j0 < cells.size by omega]
      · by_cases hk2 : off + (j0 + 1) ≤ k ∧ k < off + (j0 + 1) + vs.length
        · rw [if_pos hk2, if_pos (by omega), show k - (off + j0) = (k - (off + (j0 + 1))) + 1 by omega]; simp
        · rw [if_neg hk2, if_neg (by omega), Array.getElem?_setIfInBounds_ne (Ne.symm hk)]
  intro vs off cells h
  have := gen vs off 0 cells (by omega)
  simpa using this

/-- A row of values reads as a row of cells. -/
def RowRel (w : World) (E : Nat → Option Nat) (vs : Array Value) (cs : List D) : Prop :=
  vs.size = cs.length ∧ (∀ x ∈ cs, notAgg x = true) ∧ ∀ k x, cs[k]? = some x → RelD w E (vs.getD k undef) x

theorem RelD.row {E : Nat → Option Nat} {v : Value} {d : D} (h : RelD w E v d) : RowRel w E v.cells d.cells := by
  cases h
  case agg vs cs hs hna hr => exact ⟨hs, hna, hr⟩
  case any h1 =>
    have hc : v.cells = #[v] := by cases v <;> first | rfl | (simp [Value.oneCell'] at h1)
    rw [hc]
    refine ⟨rfl, by simp [D.cells, notAgg], fun k x hk => ?_⟩
    cases k with
    | succ k => simp [D.cells] at hk
    | zero =>
      simp [D.cells] at hk; subst hk
      exact .any _ h1
  all_goals
    refine ⟨rfl, by simp [D.cells, notAgg], fun k x hk => ?_⟩
    cases k with
    | succ k => simp [D.cells] at hk
    | zero =>
      simp [D.cells] at hk; subst hk
      simp only [Value.cells]
      first
        | exact .bool _ | exact .int _ _ | exact .str _ | exact .nil | exact .err _ _ | exact .snil _ _ _ | (rename_i h1 h2 h3 h4 h5 h6 h7 h8; exact .scons _ _ _ _ _ _ _ h1 h2 h3 h4 h5 h6 h7 h8)

theorem RowRel.put {E : Nat → Option Nat} {vs : Array Value} {cs : List D} {us : Array Value} {ds : List D} {off : Nat} (h : RowRel w E vs cs) (g : RowRel w E us ds) (hle : off + ds.length ≤ cs.length) :
    RowRel w E ((us.toList.zipIdx).foldl (fun cs (c, j) => cs.setIfInBounds (off + j) c) vs) (setAt cs off ds) := by
  obtain ⟨h1, h2, h3⟩ := h
  obtain ⟨g1, g2, g3⟩ := g
  obtain ⟨s1, s2⟩ := setAt_spec ds cs off hle
  obtain ⟨r1, r2⟩ := real_set us.toList off vs (by simp [g1, h1]; exact hle)
  refine ⟨by rw [r1, s1, h1], fun x hx => ?_, fun k x hk => ?_⟩
  · obtain ⟨k, hk⟩ := List.mem_iff_getElem?.1 hx
    rw [s2] at hk
    split at hk
    · exact g2 x (List.mem_of_getElem? hk)
    · exact h2 x (List.mem_of_getElem? hk)
  · rw [s2] at hk
    rw [Array.getD_eq_getD_getElem?, r2]
    simp only [Array.length_toList, g1]
    split at hk
    · rename_i hc; rw [if_pos hc]
      have := g3 _ x hk
      simpa [Array.getD_eq_getD_getElem?] using this
    · rename_i hc; rw [if_neg hc]
      have := h3 _ x hk
      simpa [Array.getD_eq_getD_getElem?] using this

theorem fill_sound (h : Sim gl W0 w0 G0 N G Bf rs a w) (places : List (Nat × Nat)) : ∀ (ps : List (Nat × Operand)) (qs : List (Nat × Nat × Opd)) (ds cs cs' : List D) (vs : Array Value),
    partsOK places ps qs = true → evDs gl rs.env (qs.map (·.2.2)) = some ds → Vi.fill cs qs ds = some cs' → RowRel w G.E vs cs →
    ∃ vs', Instr.fill (places.toArray[·]?) vs (ps.map fun p => (p.1, a.eval p.2)) = some vs' ∧ RowRel w G.E vs' cs'
  | [], [], ds, cs, cs', vs, hp, hd, hf, hr => by
    simp [evDs] at hd; subst hd
    simp [Vi.fill] at hf; subst hf
    exact ⟨vs, rfl, hr⟩
  | [], _ :: _, ds, cs, cs', vs, hp, hd, hf, hr => by simp [partsOK] at hp
  | _ :: _, [], ds, cs, cs', vs, hp, hd, hf, hr => by simp [partsOK] at hp
  | (i, x) :: ps, (off, sz, y) :: qs, ds, cs, cs', vs, hp, hd, hf, hr => by
    simp only [partsOK, Bool.and_eq_true, beq_iff_eq] at hp
    obtain ⟨⟨hpl, hx⟩, hps⟩ := hp
    simp only [List.map_cons, evDs, Option.bind_eq_some_iff, Option.some.injEq] at hd
    obtain ⟨d, hd1, ds', hd2, rfl⟩ := hd
    simp only [Vi.fill, Option.ite_none_right_eq_some] at hf
    obtain ⟨⟨hsz, hle⟩, hf⟩ := hf
    have hrow := (h.evD hx hd1).row
    obtain ⟨vs', h1, h2⟩ := fill_sound h places ps qs ds' _ cs' _ hps hd2 hf (hr.put hrow (off := off) (by omega))
    refine ⟨vs', ?_, h2⟩
    have e1 : (a.eval x).cells.size = sz := by rw [hrow.1, hsz]
    have e2 : off + (a.eval x).cells.size ≤ vs.size := by rw [hr.1, e1]; exact hle
    have e3 : ¬ (vs.size < off + sz) := by rw [hr.1]; omega
    have hpl' : places.toArray[i]? = some (off, sz) := by simpa using hpl
    simp only [List.map_cons, Instr.fill, hpl', e1, ne_eq, not_true_eq_false, decide_false, Bool.false_or, gt_iff_lt, e3, Bool.false_eq_true, if_false]
    have hfold : ((a.eval x).cells.zipIdx).foldl (fun cs (c, j) => cs.setIfInBounds (off + j) c) vs = ((a.eval x).cells.toList.zipIdx).foldl (fun cs (c, j) => cs.setIfInBounds (off + j) c) vs := by
      rw [← Array.foldl_toList, Array.toList_zipIdx]
    rw [hfold]
    exact h1

theorem constDs_row {vs : Array Value} {cs : List D} {E : Nat → Option Nat} (h : constDs vs.toList cs = true) : RowRel w E vs cs := by
  obtain ⟨h1, h2, h3⟩ := constDs_get (w := w) (E := E) h
  refine ⟨by simpa using h1, h2, fun k x hk => ?_⟩
  have := h3 k x hk
  simpa [List.getD, Array.getD_eq_getD_getElem?] using this

theorem build_sound (h : Sim gl W0 w0 G0 N G Bf rs a w) {o : Oper} {zero : List D} {parts : List (Nat × Nat × Opd)} (hc : chkOp P o.op (.build zero parts) = true) (he : eff gl cf dst rs (.build zero parts) = some e) : PureOK P a w G Bf rs o e := by
  obtain ⟨_, op, ty, pos, after, guard⟩ := o
  cases op <;> try (simp only [chkOp, Bool.false_eq_true] at hc; done)
  case build t ps =>
    simp only [eff, Option.bind_eq_some_iff, Option.map_eq_some_iff] at he
    obtain ⟨ds, hds, cs', hf, rfl⟩ := he
    simp only [chkOp] at hc
    have fin : ∀ (places : List (Nat × Nat)) (z : Value), constDs z.cells.toList zero = true → partsOK places ps.toList parts = true →
        (∀ vs', Instr.fill (places.toArray[·]?) z.cells (ps.map fun p => (p.1, a.eval p.2)).toList = some vs' → P.built t (ps.map fun p => (p.1, a.eval p.2)).toList = some vs') →
        PureOK P a w G Bf rs ⟨‹_›, .build t ps, ty, pos, after, guard⟩ { val := some (.d (.agg cs')) } := by
      intro places z hz hp hb
      obtain ⟨vs', h1, h2⟩ := fill_sound h places ps.toList parts ds zero cs' z.cells hp hds hf (constDs_row hz)
      have h3 := hb vs' (by simpa using h1)
      exact .data (v := .agg vs') (by simp only [execOp, Sem.run_bind, run_build w t _ vs' h3, Result.andThen_ok]; rfl) (.agg vs' cs' h2.1 h2.2.1 h2.2.2)
    cases hit : P.info? t with
    | none => rw [hit] at hc; cases hc
    | some it =>
      cases hu : P.underlying t with
      | none => rw [hit, hu] at hc; cases hc
      | some d =>
        rw [hit, hu] at hc
        cases d <;> try (simp only [Bool.false_eq_true] at hc; done)
        case struct fields =>
          cases hz : it.zero with
          | none => simp only [hz, Bool.false_eq_true] at hc
          | some z =>
            cases hp : fields.toList.mapM (fun f => (P.info? f.type).map fun i => (f.offset, i.size)) with
            | none => simp only [hz, hp, Bool.false_eq_true] at hc
            | some places =>
              simp only [hz, hp, Bool.and_eq_true] at hc
              exact fin places z hc.1 hc.2 fun vs' hv => by simp only [Program.built, hit, hu, hz, hp]; exact hv
        case array n el =>
          cases hz : it.zero with
          | none => simp only [hz, Bool.false_eq_true] at hc
          | some z =>
            cases hie : P.info? el with
            | none => simp only [hz, hie, Bool.false_eq_true] at hc
            | some ie =>
              simp only [hz, hie, Bool.and_eq_true] at hc
              refine fin _ z hc.1 hc.2 fun vs' hv => ?_
              simp only [Program.built, hit, hu, hz, hie]
              rw [← hv]
              have hps : ∀ p ∈ ps.toList, p.1 < n := by
                have : ∀ (l : List (Nat × Operand)) (q : List (Nat × Nat × Opd)), partsOK ((List.range n).map fun i => (i * ie.size, ie.size)) l q = true → ∀ p ∈ l, p.1 < n := by
                  intro l
                  induction l with
                  | nil => simp
                  | cons x l ih =>
                    intro q hq p hp
                    cases q with
                    | nil => simp [partsOK] at hq
                    | cons y q =>
                      simp only [partsOK, Bool.and_eq_true, beq_iff_eq] at hq
                      rcases List.mem_cons.1 hp with rfl | hp
                      · have := lt_of_get hq.1.1
                        simpa using this
                      · exact ih q hq.2 p hp
                exact this _ _ hc.2
              have cong : ∀ (l : List (Nat × Operand)) (c : Array Value), (∀ p ∈ l, p.1 < n) →
                  Instr.fill (fun i => some (i * ie.size, ie.size)) c (l.map fun p => (p.1, a.eval p.2)) = Instr.fill (fun x => ((List.range n).map fun i => (i * ie.size, ie.size)).toArray[x]?) c (l.map fun p => (p.1, a.eval p.2)) := by
                intro l
                induction l with
                | nil => intro c _; rfl
                | cons x l ih =>
                  intro c hl
                  have hx := hl x (by simp)
                  have : ((List.range n).map fun i => (i * ie.size, ie.size)).toArray[x.1]? = some (x.1 * ie.size, ie.size) := by simp [hx]
                  simp only [List.map_cons, Instr.fill, this]
                  split
                  · rfl
                  · exact ih _ fun p hp => hl p (by simp [hp])
              have := cong ps.toList z.cells hps
              simpa using this
end
end Go.Vi
