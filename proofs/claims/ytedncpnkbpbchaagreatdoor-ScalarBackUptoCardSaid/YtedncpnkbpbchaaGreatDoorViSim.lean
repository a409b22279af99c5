/-
  The verified interpreter: the relation between a state over data and a state of the model, and how it lives through a step.
-/
import Derived.Test.YtedncpnkbpbchaaGreatDoorViChk
set_option linter.unusedVariables false
set_option linter.unusedSimpArgs false
namespace Go.Vi
open Go.RowKit

/-- A step that touches just the blocks K of those that stood. -/
structure Evo (K : Nat → Prop) (w : World) (G : Gh) (w' : World) (G' : Gh) : Prop where
  os : w'.os = w.os
  tape : w'.tape = w.tape
  output : w'.output = w.output
  size : w.heap.size ≤ w'.heap.size
  out : ∀ b, b < w.heap.size → ¬ K b → G' b = G b ∧ w'.heap[b]? = w.heap[b]?
  inn : ∀ b, b < w.heap.size → K b → (∃ e k, G b = .own e k ∧ (∃ e', (G' b).ext = some e' ∧ e ≤ e') ∧ ∀ i, i < e → w'.cell? ⟨b, i, none⟩ = w.cell? ⟨b, i, none⟩) ∨ ∃ k, G b = .box k
  fresh : ∀ b, w'.heap.size ≤ b → G' b = .no

theorem cell_of_heap {w w' : World} {b i : Nat} (h : w'.heap[b]? = w.heap[b]?) : w'.cell? ⟨b, i, none⟩ = w.cell? ⟨b, i, none⟩ := by simp [World.cell?, h]

theorem Evo.mono {K : Nat → Prop} {w w' : World} {G G' : Gh} (h : Evo K w G w' G') (hf : ∀ b, w.heap.size ≤ b → G b = .no) : Mono w G.E w' G'.E := by
  have hlt : ∀ b e, G.E b = some e → b < w.heap.size := fun b e he => by
    rcases Nat.lt_or_ge b w.heap.size with h | h
    · exact h
    · simp [Gh.E, hf b h, Gs.ext] at he
  refine ⟨fun b e he => ?_, fun b e he i hi => ?_⟩
  · by_cases hk : K b
    · rcases h.inn b (hlt b e he) hk with ⟨e1, k, h1, ⟨e', h2, h3⟩, _⟩ | ⟨k, h1⟩
      · simp only [Gh.E, h1, Gs.ext, Option.some.injEq] at he
        exact ⟨e', by omega, h2⟩
      · simp [Gh.E, h1, Gs.ext] at he
    · exact ⟨e, Nat.le_refl _, by simpa [Gh.E, (h.out b (hlt b e he) hk).1] using he⟩
  · by_cases hk : K b
    · rcases h.inn b (hlt b e he) hk with ⟨e1, k, h1, _, h4⟩ | ⟨k, h1⟩
      · simp only [Gh.E, h1, Gs.ext, Option.some.injEq] at he
        exact h4 i (by omega)
      · simp [Gh.E, h1, Gs.ext] at he
    · exact cell_of_heap (h.out b (hlt b e he) hk).2

theorem Evo.keep {K : Nat → Prop} {w0 w w' : World} {G0 G G' : Gh} (h : Evo K w G w' G') (hk : Keep w0 G0 w G) (hn : ∀ b, b < w0.heap.size → ∀ k, G0 b ≠ .box k) : Keep w0 G0 w' G' := by
  refine ⟨h.os.trans hk.os, h.tape.trans hk.tape, h.output.trans hk.output, Nat.le_trans hk.size h.size, fun b hb e k he => ?_, fun b hb hne => ?_⟩
  · have hb' : b < w.heap.size := Nat.lt_of_lt_of_le hb hk.size
    obtain ⟨⟨e1, h1, h2⟩, h3⟩ := hk.own b hb e k he
    by_cases hK : K b
    · rcases h.inn b hb' hK with ⟨e2, k2, g1, ⟨e', g2, g3⟩, g4⟩ | ⟨k, g1⟩
      · simp only [g1, Gs.ext, Option.some.injEq] at h1
        exact ⟨⟨e', g2, by omega⟩, fun i hi => (g4 i (by omega)).trans (h3 i hi)⟩
      · simp [g1, Gs.ext] at h1
    · obtain ⟨g1, g2⟩ := h.out b hb' hK
      exact ⟨⟨e1, by rw [g1]; exact h1, h2⟩, fun i hi => (cell_of_heap g2).trans (h3 i hi)⟩
  · have hb' : b < w.heap.size := Nat.lt_of_lt_of_le hb hk.size
    obtain ⟨h1, h2⟩ := hk.rest b hb hne
    by_cases hK : K b
    · rcases h.inn b hb' hK with ⟨e2, k2, g1, _⟩ | ⟨k, g1⟩
      · exact absurd (h1.symm.trans g1) (hne e2 k2)
      · exact absurd (h1.symm.trans g1) (hn b hb k)
    · obtain ⟨g1, g2⟩ := h.out b hb' hK
      exact ⟨g1.trans h1, g2.trans h2⟩

theorem Evo.refl (K : Nat → Prop) (w : World) (G : Gh) (hf : ∀ b, w.heap.size ≤ b → G b = .no) (hK : ∀ b, ¬ K b) : Evo K w G w G :=
  ⟨rfl, rfl, rfl, Nat.le_refl _, fun _ _ _ => ⟨rfl, rfl⟩, fun b _ h => absurd h (hK b), hf⟩

theorem CellsRel.mono {w w' : World} {E E' : Nat → Option Nat} (m : Mono w E w' E') {b off : Nat} {cs : List D} (h : CellsRel w E b off cs) : CellsRel w' E' b off cs := by
  obtain ⟨e, vals, hE, hle, hna, hc⟩ := h
  obtain ⟨e', he, hE'⟩ := m.ext b e hE
  refine ⟨e', vals, hE', by omega, hna, fun k x hk => ?_⟩
  have hlt : k < cs.length := by
    rcases Nat.lt_or_ge k cs.length with h | h
    · exact h
    · rw [List.getElem?_eq_none h] at hk; cases hk
  obtain ⟨h1, h2⟩ := hc k x hk
  exact ⟨(m.cell b e hE (off + k) (by omega)).trans h1, h2.mono m⟩

theorem lt_of_heap {w : World} {b : Nat} {o : Obj} (h : w.heap[b]? = some o) : b < w.heap.size := (Array.getElem?_eq_some_iff.1 h).1

theorem SimV.evo {K : Nat → Prop} {w w' : World} {G G' : Gh} {Bf Bf' : Nat → Nat} {s : Nat} {v : Value} {x : V} (h : SimV w G Bf s v x) (ev : Evo K w G w' G') (hf : ∀ b, w.heap.size ≤ b → G b = .no)
    (hown : ∀ b e, G b = .own e s → ¬ K b) (hit : ∀ b l p, G b = .box s → w.heap[b]? = some (.stringIter l p) → ¬ K b) (hB : ∀ s' o, x = .lref s' o → Bf' s' = Bf s') : SimV w' G' Bf' s v x := by
  have m := ev.mono hf
  cases x with
  | d x => exact RelD.mono m h
  | own sz xs =>
    obtain ⟨h1, h2, h3⟩ := h
    refine ⟨h1, h2, ?_⟩
    rcases h3 with h3 | ⟨g, cap, cur, T, hv, hg, hc, hm, hcs, hG, hr⟩
    · exact .inl h3
    · obtain ⟨e1, e2⟩ := ev.out g (lt_of_heap hg) (hown g _ hG)
      exact .inr ⟨g, cap, cur, T, hv, e2.trans hg, hc, hm, hcs, e1.trans hG, fun k x hk => (hr k x hk).mono m⟩
  | lref s' o => exact (show v = _ from h).trans (by rw [hB s' o rfl])
  | cref x =>
    obtain ⟨b, off, hv, hc⟩ := h
    exact ⟨b, off, hv, hc.mono m⟩
  | tup xs =>
    obtain ⟨vs, hv, hs, hr⟩ := h
    exact ⟨vs, hv, hs, fun k x hk => (hr k x hk).mono m⟩
  | iter l pos =>
    obtain ⟨r, hv, hr, hG⟩ := h
    obtain ⟨e1, e2⟩ := ev.out r (lt_of_heap hr) (hit r _ _ hG hr)
    exact ⟨r, hv, e2.trans hr, e1.trans hG⟩
  | un => exact h

theorem BoxRel.evo {K : Nat → Prop} {w w' : World} {G G' : Gh} {g s : Nat} {cs : List D} (h : BoxRel w G g s cs) (ev : Evo K w G w' G') (hf : ∀ b, w.heap.size ≤ b → G b = .no) (hK : ¬ K g) : BoxRel w' G' g s cs := by
  obtain ⟨hG, vs, T, hg, hs, hna, hr⟩ := h
  obtain ⟨e1, e2⟩ := ev.out g (lt_of_heap hg) hK
  exact ⟨e1.trans hG, vs, T, e2.trans hg, hs, hna, fun k x hk => (hr k x hk).mono (ev.mono hf)⟩

/-- What the whole call stands on: the world in which the outermost call began, the package's variables. -/
structure Base (gl : Nat → Option D) (W0 : World) (G : Gh) (w : World) : Prop where
  fresh : ∀ b, w.heap.size ≤ b → G b = .no
  glob : ∀ i x, gl i = some x → CellsRel w G.E i 0 x.cells
  below : Below W0.heap.size W0 w
  com : ∀ b, b < W0.heap.size → ∃ e, G b = .com e

theorem Base.evo {K : Nat → Prop} {gl : Nat → Option D} {W0 w w' : World} {G G' : Gh} (h : Base gl W0 G w) (ev : Evo K w G w' G') : Base gl W0 G' w' := by
  have hsz : W0.heap.size ≤ w.heap.size := h.below.size
  have hK : ∀ b, b < W0.heap.size → ¬ K b := fun b hb hk => by
    obtain ⟨e, he⟩ := h.com b hb
    rcases ev.inn b (by omega) hk with ⟨e1, k, h1, _⟩ | ⟨k, h1⟩ <;> rw [he] at h1 <;> cases h1
  refine ⟨ev.fresh, fun i x hx => (h.glob i x hx).mono (ev.mono h.fresh), ⟨ev.os.trans h.below.os, ev.tape.trans h.below.tape, ev.output.trans h.below.output, Nat.le_trans hsz ev.size, fun k hk => (ev.out k (by omega) (hK k hk)).2.trans (h.below.block k hk)⟩, fun b hb => ?_⟩
  obtain ⟨e, he⟩ := h.com b hb
  exact ⟨e, (ev.out b (by omega) (hK b hb)).1.trans he⟩

structure Sim (gl : Nat → Option D) (W0 w0 : World) (G0 : Gh) (N : Nat) (G : Gh) (Bf : Nat → Nat) (rs : RS) (a : Act) (w : World) : Prop where
  size : a.tmps.size = N
  defers : a.defers = []
  env : ∀ s v, rs.env s = some v → SimV w G Bf s (a.tmps.getD s undef) v
  bx : ∀ s cs, rs.bx s = some cs → BoxRel w G (Bf s) s cs
  lref : ∀ s s' o, rs.env s = some (.lref s' o) → (rs.bx s').isSome = true
  base : Base gl W0 G w
  keep : Keep w0 G0 w G

section
variable {gl : Nat → Option D} {W0 w0 : World} {G0 : Gh} {N : Nat} {G : Gh} {Bf : Nat → Nat} {rs : RS} {a : Act} {w : World}

theorem Sim.ev (h : Sim gl W0 w0 G0 N G Bf rs a w) {x : Operand} {y : Opd} {v : V} (ho : opdOK x y = true) (hv : ev gl rs.env y = some v) :
    ∃ s, SimV w G Bf s (a.eval x) v ∧ ∀ s', y = .t s' → s' = s := by
  unfold opdOK at ho
  split at ho
  case h_1 t s =>
    simp at ho; subst ho
    exact ⟨t, h.env t v hv, fun s' e => by cases e; rfl⟩
  case h_2 c x =>
    simp only [Vi.ev, Option.some.injEq] at hv; subst hv
    refine ⟨0, ?_, fun s' e => by cases e⟩
    cases x with
    | d x => exact constOK_d ho
    | own sz xs =>
      cases c <;> simp [constOK] at ho
      case slice A n c =>
        rcases A with _ | A <;> rcases n with _ | n <;> rcases c with _ | c <;> rcases xs with _ | ⟨x, xs⟩ <;> simp_all [constOK]
        exact ⟨by simp, by simp [flat], .inl ⟨rfl, rfl⟩⟩
    | _ => cases c <;> simp [constOK] at ho
  case h_3 g i =>
    simp at ho; subst ho
    simp only [Vi.ev, Option.map_eq_some_iff] at hv
    obtain ⟨x, hx, rfl⟩ := hv
    exact ⟨0, ⟨g, 0, rfl, h.base.glob g x hx⟩, fun s' e => by cases e⟩
  case h_4 => cases ho

theorem Sim.evD (h : Sim gl W0 w0 G0 N G Bf rs a w) {x : Operand} {y : Opd} {d : D} (ho : opdOK x y = true) (hv : evD gl rs.env y = some d) : RelD w G.E (a.eval x) d := by
  simp only [Vi.evD, Option.bind_eq_some_iff] at hv
  obtain ⟨v, h1, h2⟩ := hv
  obtain ⟨s, hs, _⟩ := h.ev ho h1
  exact hs.read h2

theorem Sim.evI (h : Sim gl W0 w0 G0 N G Bf rs a w) {x : Operand} {y : Opd} {n : Int} (ho : opdOK x y = true) (hv : evI gl rs.env y = some n) : ∃ k, a.eval x = .int k n := by
  simp only [Vi.evI, Option.bind_eq_some_iff] at hv
  obtain ⟨d, h1, h2⟩ := hv
  have := h.evD ho h1
  cases d <;> simp [D.asInt] at h2
  subst h2
  generalize a.eval x = u at this
  cases this
  exact ⟨_, rfl⟩

theorem getD_put {dst s : Nat} {a : Act} {v : Value} (hs : dst < a.tmps.size) : ((a.put (some dst) v).tmps).getD s undef = if s = dst then v else a.tmps.getD s undef := by
  by_cases h : s = dst
  · subst h; simp [Act.put, hs]
  · simp [Act.put, h, Array.getElem?_setIfInBounds_ne (Ne.symm h)]

/-- A value is laid into a slot, the world a touched one. -/
theorem Sim.lay (h : Sim gl W0 w0 G0 N G Bf rs a w) {K : Nat → Prop} {w' : World} {G' : Gh} {Bf' : Nat → Nat} {rs' : RS} {dst : Option Nat} {v : Value}
    (ev : Evo K w G w' G') (hn : ∀ b, b < w0.heap.size → ∀ k, G0 b ≠ .box k) (hd : ∀ d, dst = some d → d < N)
    (henv : ∀ s x, rs'.env s = some x → (dst = some s ∧ SimV w' G' Bf' s v x) ∨ (dst ≠ some s ∧ SimV w' G' Bf' s (a.tmps.getD s undef) x))
    (hbx : ∀ s cs, rs'.bx s = some cs → BoxRel w' G' (Bf' s) s cs)
    (hl : ∀ s s' o, rs'.env s = some (.lref s' o) → (rs'.bx s').isSome = true) :
    Sim gl W0 w0 G0 N G' Bf' rs' (a.put dst v) w' := by
  refine ⟨?_, ?_, fun s x hx => ?_, hbx, hl, h.base.evo ev, ev.keep h.keep hn⟩
  · cases dst <;> simp [Act.put, h.size]
  · cases dst <;> simp [Act.put, h.defers]
  · cases dst with
    | none =>
      rcases henv s x hx with ⟨h1, _⟩ | ⟨_, h1⟩
      · cases h1
      · exact h1
    | some d =>
      rw [getD_put (by rw [h.size]; exact hd d rfl)]
      rcases henv s x hx with ⟨h1, h2⟩ | ⟨h1, h2⟩
      · cases h1; simpa using h2
      · have : s ≠ d := fun e => h1 (by rw [e])
        simpa [this] using h2

theorem put_cases {dst : Option Nat} {v : Option V} {e : Env} {s : Nat} {x : V} (h : put dst v e s = some x) : (dst = some s ∧ v = some x) ∨ (dst ≠ some s ∧ e s = some x) := by
  cases dst with
  | none => exact .inr ⟨by simp, h⟩
  | some d =>
    simp only [put, upd] at h
    by_cases hs : s = d
    · subst hs; exact .inl ⟨rfl, by simpa using h⟩
    · exact .inr ⟨by simpa using Ne.symm hs, by simpa [hs] using h⟩

/-- An operation that leaves the world alone. -/
theorem Sim.pure (h : Sim gl W0 w0 G0 N G Bf rs a w) {dst : Option Nat} {v : Value} {x : Option V} (hn : ∀ b, b < w0.heap.size → ∀ k, G0 b ≠ .box k) (hd : ∀ d, dst = some d → d < N)
    (hx : ∀ d y, dst = some d → x = some y → SimV w G Bf d v y) (hl : ∀ s' o, x = some (.lref s' o) → (rs.bx s').isSome = true) :
    Sim gl W0 w0 G0 N G Bf { rs with env := put dst x rs.env } (a.put dst v) w := by
  refine h.lay (K := fun _ => False) (Evo.refl _ w G h.base.fresh fun _ h => h) hn hd (fun s y hy => ?_) h.bx (fun s s' o hs => ?_)
  · rcases put_cases hy with ⟨h1, h2⟩ | ⟨h1, h2⟩
    · exact .inl ⟨h1, hx s y h1 h2⟩
    · exact .inr ⟨h1, h.env s y h2⟩
  · rcases put_cases hs with ⟨h1, h2⟩ | ⟨h1, h2⟩
    · exact hl s' o h2
    · exact h.lref s s' o h2

end
end Go.Vi
