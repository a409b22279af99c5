/-
  The verified interpreter: the operations that make or write memory, and what every operation but a call owes.
-/
import Derived.Test.YtedncpnkbpbchaaGreatDoorViApp
import Derived.Great.BuildSlice
set_option linter.unusedVariables false
set_option linter.unusedSimpArgs false
namespace Go.Vi
open Go.RowKit

section
variable {P : Program} {gl : Nat → Option D} {W0 w0 : World} {G0 : Gh} {N : Nat} {G : Gh} {Bf : Nat → Nat} {rs : RS} {a : Act} {w : World} {cf : Nat → List V → Option V} {dst : Option Nat} {e : Eff}

/-- What an operation owes. -/
def EffOK (P : Program) (gl : Nat → Option D) (W0 w0 : World) (G0 : Gh) (N : Nat) (rs : RS) (a : Act) (w : World) (o : Oper) (e : Eff) : Prop :=
  ∃ v w' G' Bf', ((execOp a.eval o).run P w = .ok (.value v) w' ∨ ((execOp a.eval o).run P w = .ok .skip w' ∧ v = undef)) ∧ Sim gl W0 w0 G0 N G' Bf' (applyEff o.dst rs e) (a.put o.dst v) w'

theorem EffOK.of_pure (h : Sim gl W0 w0 G0 N G Bf rs a w) (hn : ∀ b, b < w0.heap.size → ∀ k, G0 b ≠ .box k) {o : Oper} (hd : ∀ d, o.dst = some d → d < N) (hp : PureOK P a w G Bf rs o e) : EffOK P gl W0 w0 G0 N rs a w o e := by
  obtain ⟨v, x, rfl, hr, hs, hl⟩ := hp
  exact ⟨v, w, G, Bf, .inl hr, h.pure hn hd (fun d y hdd hy => by cases hy; exact hs d) (fun s' o' hx => by cases hx; exact hl s' o' rfl)⟩

theorem Sim.alloc (h : Sim gl W0 w0 G0 N G Bf rs a w) (hn : ∀ b, b < w0.heap.size → ∀ k, G0 b ≠ .box k) (hd : ∀ d, dst = some d → d < N) {w1 : World} {ob : Obj} {st : Gs} {Bf' : Nat → Nat} {bx' : Bx} {x : V} {v : Value}
    (hh : w1.heap = w.heap) (ho : w1.os = w.os) (ht : w1.tape = w.tape) (hp : w1.output = w.output)
    (hx : ∀ d, dst = some d → SimV (w1.alloc ob) (upd G w.heap.size st) Bf' d v x)
    (hB : ∀ s, (rs.bx s).isSome = true → Bf' s = Bf s)
    (hbx : ∀ s cs, bx' s = some cs → rs.bx s = some cs ∨ BoxRel (w1.alloc ob) (upd G w.heap.size st) (Bf' s) s cs)
    (hm : ∀ s, (rs.bx s).isSome = true → (bx' s).isSome = true) (hl : ∀ s' o', dst.isSome = true → x = .lref s' o' → (bx' s').isSome = true) :
    Sim gl W0 w0 G0 N (upd G w.heap.size st) Bf' { env := put dst (some x) rs.env, bx := bx' } (a.put dst v) (w1.alloc ob) := by
  have ev : Evo (fun _ => False) w G (w1.alloc ob) (upd G w.heap.size st) := evo_new h.base.fresh hh ho ht hp
  refine h.lay ev hn hd (fun s y hy => ?_) (fun s cs hcs => ?_) (fun s s' o' hs => ?_)
  · rcases put_cases hy with ⟨h1, h2⟩ | ⟨h1, h2⟩
    · cases h2; exact .inl ⟨h1, hx s h1⟩
    · exact .inr ⟨h1, (h.env s y h2).evo ev h.base.fresh (fun _ _ _ => id) (fun _ _ _ _ _ => id) fun s' o' hy' => hB s' (h.lref s s' o' (by rw [h2, hy']))⟩
  · rcases hbx s cs hcs with h1 | h1
    · rw [hB s (by simp [h1])]
      exact (h.bx s cs h1).evo ev h.base.fresh id
    · exact h1
  · rcases put_cases hs with ⟨h1, h2⟩ | ⟨h1, h2⟩
    · cases h2; exact hl s' o' (by simp [h1]) rfl
    · exact hm s' (h.lref s s' o' h2)

/-- A slot's variable is made. -/
theorem boxed (h : Sim gl W0 w0 G0 N G Bf rs a w) (hn : ∀ b, b < w0.heap.size → ∀ k, G0 b ≠ .box k) {s : Nat} (hd : s < N) {vs : Array Value} {T : TypeId} {cs : List D} (hr : RowRel w G.E vs cs) (hb : rs.bx s = none) :
    ∃ Bf', Sim gl W0 w0 G0 N (upd G w.heap.size (.box s)) Bf' { env := put (some s) (some (.lref s 0)) rs.env, bx := upd rs.bx s (some cs) } (a.put (some s) (.pointer (some ⟨w.heap.size, 0, none⟩))) (w.alloc (.cells vs T)) := by
  have ev : Evo (fun _ => False) w G (w.alloc (.cells vs T)) (upd G w.heap.size (.box s)) := evo_new h.base.fresh rfl rfl rfl rfl
  have m := ev.mono h.base.fresh
  refine ⟨upd Bf s w.heap.size, h.alloc hn (fun d hd' => by cases hd'; exact hd) rfl rfl rfl rfl (fun d hd' => ?_) (fun s' hs' => ?_) (fun s' cs' hs' => ?_) (fun s' hs' => ?_) (fun s' o' _ hx => ?_)⟩
  · simp [SimV, upd]
  · have : s' ≠ s := by intro e; rw [e, hb] at hs'; cases hs'
    simp [upd, this]
  · by_cases hss : s' = s
    · subst hss
      simp only [upd, if_true, Option.some.injEq] at hs'
      subst hs'
      refine .inr ⟨by simp [upd], vs, T, by simp only [upd, if_true]; exact heap_alloc_new w _, hr.1, hr.2.1, fun k x hk => (hr.2.2 k x hk).mono m⟩
    · simp only [upd, if_neg hss] at hs'
      exact .inl hs'
  · by_cases hss : s' = s
    · subst hss; simp [upd]
    · simpa [upd, hss] using hs'
  · cases hx; simp [upd]

theorem zbox_sound (h : Sim gl W0 w0 G0 N G Bf rs a w) (hn : ∀ b, b < w0.heap.size → ∀ k, G0 b ≠ .box k) {o : Oper} (hd : ∀ d, o.dst = some d → d < N) {cs : List D} (hc : chkOp P o.op (.zbox cs) = true) (he : eff gl cf o.dst rs (.zbox cs) = some e) : EffOK P gl W0 w0 G0 N rs a w o e := by
  obtain ⟨d, op, ty, pos, after, guard⟩ := o
  cases op <;> try (simp only [chkOp, Bool.false_eq_true] at hc; done)
  case alloc t =>
    simp only [chkOp] at hc
    cases hz : (P.info? t).bind (·.zero) with
    | none => rw [hz] at hc; cases hc
    | some z =>
      rw [hz] at hc
      simp only [Option.bind_eq_some_iff] at hz
      obtain ⟨i, hi, hz⟩ := hz
      simp only [eff] at he
      cases d with
      | none => cases he
      | some s =>
        simp only [Option.ite_none_right_eq_some, Option.some.injEq, Bool.and_eq_true, Option.isNone_iff_eq_none] at he
        obtain ⟨⟨hb, _⟩, rfl⟩ := he
        obtain ⟨Bf', hs⟩ := boxed h hn (hd s rfl) (T := t) (constDs_row (w := w) (E := G.E) hc) hb
        refine ⟨_, _, _, Bf', .inl ?_, hs⟩
        simp [execOp, Instr.alloc, zeroValue, typeInfo, hi, hz, newVar, newRow]

theorem box_sound (h : Sim gl W0 w0 G0 N G Bf rs a w) (hn : ∀ b, b < w0.heap.size → ∀ k, G0 b ≠ .box k) {o : Oper} (hd : ∀ d, o.dst = some d → d < N) {x : Opd} (hc : chkOp P o.op (.box x) = true) (he : eff gl cf o.dst rs (.box x) = some e) : EffOK P gl W0 w0 G0 N rs a w o e := by
  obtain ⟨d, op, ty, pos, after, guard⟩ := o
  cases op <;> try (simp only [chkOp, Bool.false_eq_true] at hc; done)
  case box t y =>
    simp only [chkOp] at hc
    cases d with
    | none => simp [eff] at he
    | some s =>
      cases hx : evD gl rs.env x with
      | none => simp [eff, hx] at he
      | some dd =>
        simp only [eff, hx, Option.ite_none_right_eq_some, Option.some.injEq, Bool.and_eq_true, Option.isNone_iff_eq_none] at he
        obtain ⟨⟨hb, _⟩, rfl⟩ := he
        obtain ⟨Bf', hs⟩ := boxed h hn (hd s rfl) (T := t) (h.evD hc hx).row hb
        refine ⟨_, _, _, Bf', .inl ?_, hs⟩
        simp [execOp, Instr.box, newVar, newRow]

/-- A slice of the call's own is made. -/
theorem owned (h : Sim gl W0 w0 G0 N G Bf rs a w) (hn : ∀ b, b < w0.heap.size → ∀ k, G0 b ≠ .box k) (hd : ∀ d, dst = some d → d < N) {vs : Array Value} {T : TypeId} {sz cap : Nat} {xs : List D}
    (hsz : ∀ x ∈ xs, x.cells.length = sz) (hna : ∀ x ∈ flat xs, notAgg x = true) (hc : xs.length ≤ cap) (hm : cap ≤ maxLen) (hs : vs.size = cap * sz) (hr : ∀ k x, (flat xs)[k]? = some x → RelD w G.E (vs.getD k undef) x) :
    Sim gl W0 w0 G0 N (upd G w.heap.size (.own (xs.length * sz) (dst.getD 0))) Bf { env := put dst (some (.own sz xs)) rs.env, bx := rs.bx } (a.put dst (.slice (some ⟨w.heap.size, 0, none⟩) xs.length cap)) (w.alloc (.cells vs T)) := by
  have ev : Evo (fun _ => False) w G (w.alloc (.cells vs T)) (upd G w.heap.size (.own (xs.length * sz) (dst.getD 0))) := evo_new h.base.fresh rfl rfl rfl rfl
  have m := ev.mono h.base.fresh
  refine h.alloc hn hd rfl rfl rfl rfl (fun d hd' => ?_) (fun _ _ => rfl) (fun s cs hs => .inl hs) (fun _ h => h) (fun _ _ _ hx => by cases hx)
  subst hd'
  exact ⟨hsz, hna, .inr ⟨w.heap.size, cap, vs, T, rfl, heap_alloc_new w _, hc, hm, hs, by simp [upd], fun k x hk => (hr k x hk).mono m⟩⟩

theorem elemsOK_places {sz : Nat} : ∀ (k : Nat) (ps : List (Nat × Operand)) (ys : List Opd), elemsOK k ps ys = true → ps.length = ys.length ∧ ∀ (j : Nat) p, ps[j]? = some p → p.1 = k + j ∧ ∃ y, ys[j]? = some y ∧ opdOK p.2 y = true
  | _, [], [], _ => ⟨rfl, by simp⟩
  | _, [], _ :: _, h => by simp [elemsOK] at h
  | _, _ :: _, [], h => by simp [elemsOK] at h
  | k, (i, x) :: ps, y :: ys, h => by
    simp only [elemsOK, Bool.and_eq_true, beq_iff_eq] at h
    obtain ⟨h1, h2⟩ := elemsOK_places (sz := sz) (k + 1) ps ys h.2
    refine ⟨by simp [h1], fun j p hj => ?_⟩
    cases j with
    | zero => simp at hj; subst hj; exact ⟨h.1.1, y, rfl, h.1.2⟩
    | succ j =>
      simp at hj
      obtain ⟨g1, y', g2, g3⟩ := h2 j p hj
      exact ⟨by omega, y', by simpa using g2, g3⟩

theorem fill_elems (h : Sim gl W0 w0 G0 N G Bf rs a w) {sz : Nat} : ∀ (ps : List (Nat × Operand)) (ys : List Opd) (ds : List D) (k : Nat) (vs : Array Value), elemsOK k ps ys = true → evDs gl rs.env ys = some ds → (∀ d ∈ ds, d.cells.length = sz) →
    vs.size = (k + ds.length) * sz → ∃ vs', Instr.fill (fun i => some (i * sz, sz)) vs (ps.map fun p => (p.1, a.eval p.2)) = some vs' ∧ vs'.size = vs.size ∧ (∀ j, j < k * sz → vs'[j]? = vs[j]?) ∧
      ∀ j x, (flat ds)[j]? = some x → RelD w G.E (vs'.getD (k * sz + j) undef) x ∧ notAgg x = true
  | [], [], ds, k, vs, hp, hd, hs, hv => by
    simp [evDs] at hd; subst hd
    exact ⟨vs, rfl, rfl, fun _ _ => rfl, by simp [flat]⟩
  | [], _ :: _, ds, k, vs, hp, hd, hs, hv => by simp [elemsOK] at hp
  | _ :: _, [], ds, k, vs, hp, hd, hs, hv => by simp [elemsOK] at hp
  | (i, x) :: ps, y :: ys, ds, k, vs, hp, hd, hs, hv => by
    simp only [elemsOK, Bool.and_eq_true, beq_iff_eq] at hp
    obtain ⟨⟨rfl, hx⟩, hps⟩ := hp
    simp only [evDs, Option.bind_eq_some_iff, Option.some.injEq] at hd
    obtain ⟨d, hd1, ds', hd2, rfl⟩ := hd
    obtain ⟨r1, r2, r3⟩ := (h.evD hx hd1).row
    have hsz := hs d (by simp)
    have hadd : (i + (ds'.length + 1)) * sz = i * sz + sz + ds'.length * sz := by rw [Nat.add_mul, Nat.add_mul]; omega
    simp only [List.length_cons] at hv
    have hle : i * sz + (a.eval x).cells.toList.length ≤ vs.size := by simp [r1, hsz]; omega
    obtain ⟨s1, s2⟩ := real_set (a.eval x).cells.toList (i * sz) vs hle
    obtain ⟨vs', h1, h2, h3, h4⟩ := fill_elems h ps ys ds' (i + 1) _ hps hd2 (fun z hz => hs z (by simp [hz])) (by rw [s1, hv]; rw [show i + 1 + ds'.length = i + (ds'.length + 1) by omega])
    have e1 : (a.eval x).cells.size = sz := by rw [r1, hsz]
    have e3 : ¬ (vs.size < i * sz + sz) := by omega
    have hfold : ((a.eval x).cells.zipIdx).foldl (fun cs (c, j) => cs.setIfInBounds (i * sz + j) c) vs = ((a.eval x).cells.toList.zipIdx).foldl (fun cs (c, j) => cs.setIfInBounds (i * sz + j) c) vs := by
      rw [← Array.foldl_toList, Array.toList_zipIdx]
    have hmul : (i + 1) * sz = i * sz + sz := Nat.succ_mul ..
    refine ⟨vs', ?_, h2.trans s1, fun j hj => ?_, fun j z hj => ?_⟩
    · simp only [List.map_cons, Instr.fill, e1, ne_eq, not_true_eq_false, decide_false, Bool.false_or, gt_iff_lt, e3, Bool.false_eq_true, if_false]
      rw [hfold]; exact h1
    · rw [h3 j (by omega), s2, if_neg (by omega)]
    · have hfc : flat (d :: ds') = d.cells ++ flat ds' := rfl
      rw [hfc, List.getElem?_append] at hj
      split at hj
      case isTrue hlt =>
        have : vs'.getD (i * sz + j) undef = (a.eval x).cells.getD j undef := by
          rw [Array.getD_eq_getD_getElem?, h3 _ (by omega), s2, if_pos (by simp [e1]; omega), Array.getD_eq_getD_getElem?, show i * sz + j - i * sz = j by omega, Array.getElem?_toList]
        rw [this]
        exact ⟨r3 j z hj, r2 z (List.mem_of_getElem? hj)⟩
      case isFalse hge =>
        have := h4 (j - d.cells.length) z hj
        rw [show i * sz + j = (i + 1) * sz + (j - d.cells.length) by omega]
        exact this

theorem mem_flat_get {ds : List D} {x : D} (h : x ∈ flat ds) : ∃ k : Nat, (flat ds)[k]? = some x := List.mem_iff_getElem?.1 h

theorem evDs_length {e : Env} : ∀ {ys : List Opd} {ds : List D}, evDs gl e ys = some ds → ds.length = ys.length
  | [], ds, h => by simp [evDs] at h; simp [h]
  | y :: ys, ds, h => by
    simp only [evDs, Option.bind_eq_some_iff, Option.some.injEq] at h
    obtain ⟨d, _, ds', h2, rfl⟩ := h
    simp [evDs_length h2]

theorem mk_sound (h : Sim gl W0 w0 G0 N G Bf rs a w) (hn : ∀ b, b < w0.heap.size → ∀ k, G0 b ≠ .box k) {o : Oper} (hd : ∀ d, o.dst = some d → d < N) {sz : Nat} {xs : List Opd} (hc : chkOp P o.op (.mk sz xs) = true) (he : eff gl cf o.dst rs (.mk sz xs) = some e) : EffOK P gl W0 w0 G0 N rs a w o e := by
  obtain ⟨d, op, ty, pos, after, guard⟩ := o
  cases op <;> try (simp only [chkOp, Bool.false_eq_true] at hc; done)
  case buildSlice t len ps =>
    simp only [chkOp] at hc
    split at hc
    case h_2 => cases hc
    case h_1 el hu =>
      cases hie : P.info? el with
      | none => rw [hie] at hc; cases hc
      | some ie =>
        simp only [hie, Bool.and_eq_true, beq_iff_eq, decide_eq_true_eq] at hc
        obtain ⟨⟨⟨⟨⟨⟨hsz, h0⟩, hz1⟩, hz2⟩, hlen⟩, hsmall⟩, hel⟩ := hc
        obtain ⟨z, hz⟩ := Option.isSome_iff_exists.1 hz1
        have hzc : z.cells.size = sz := by simpa [hz] using hz2
        simp only [eff, Option.bind_eq_some_iff, Option.ite_none_right_eq_some, Option.some.injEq, List.all_eq_true, beq_iff_eq] at he
        obtain ⟨ds, hds, hall, rfl⟩ := he
        have hdl := evDs_length hds
        subst hsz; subst hlen
        by_cases hl0 : xs.length = 0
        · obtain rfl := List.eq_nil_of_length_eq_zero hl0
          obtain rfl := List.eq_nil_of_length_eq_zero (hdl.trans hl0)
          have hps : ps = #[] := by
            have := (elemsOK_places (sz := ie.size) 0 ps.toList [] hel).1
            simpa using this
          subst hps
          have := owned h hn hd (vs := #[]) (T := el) (sz := ie.size) (cap := 0) (xs := []) (by simp) (by simp [flat]) (Nat.le_refl _) (by simp [maxLen]) (by simp) (by simp [flat])
          refine ⟨_, _, _, _, .inl ?_, this⟩
          simp [execOp, Instr.buildSlice, run_underlying hu, sizeOf, typeInfo, hie, Instr.fill, newRow, Array.range_zero']
        · have hpos : 0 < xs.length * ie.size := Nat.mul_pos (by omega) h0
          obtain ⟨vs', h1, h2, h3, h4⟩ := fill_elems h (sz := ie.size) ps.toList xs ds 0 ((Array.range (xs.length * ie.size)).map (z.cells[· % z.cells.size]!)) hel hds hall (by simp [hdl])
          have := owned h hn hd (vs := vs') (T := el) (sz := ie.size) (cap := xs.length) (xs := ds) hall (fun x hx => by obtain ⟨k, hk⟩ := mem_flat_get hx; exact (h4 k x hk).2) (by omega)
            (by simp only [maxLen]; have := Nat.le_mul_of_pos_right xs.length h0; omega) (by rw [h2]; simp) (fun k x hk => by have := (h4 k x hk).1; simpa using this)
          rw [hdl] at this
          refine ⟨_, _, _, _, .inl ?_, by rw [show ({ val := some (V.own ie.size ds) } : Eff) = { val := some (.own ie.size ds) } from rfl]; rw [hdl] at *; exact this⟩
          have hrun := run_buildSlice (P := P) w t el xs.length (ps.map fun p => (p.1, a.eval p.2)) vs' ie z hu hie hz (by omega) (by omega) (by simpa using h1)
          simp only [execOp, Sem.run_bind, hrun, Result.andThen_ok]
          rfl
end
end Go.Vi
