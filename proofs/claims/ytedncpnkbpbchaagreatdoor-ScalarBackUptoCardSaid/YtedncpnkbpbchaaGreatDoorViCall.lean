/-
  The verified interpreter: calls.
-/
import Derived.Test.YtedncpnkbpbchaaGreatDoorViEff2
set_option linter.unusedVariables false
set_option linter.unusedSimpArgs false
namespace Go.Vi
open Go.RowKit

/-- A result: data, a tail, several data. -/
def okRes : V → Bool
  | .d _ => true
  | .own _ _ => true
  | .tup _ => true
  | _ => false

/-- What a function's run over data says of the model: called with values that read so, it returns a value that reads so, and keeps all else. -/
def CallOK (P : Program) (gl : Nat → Option D) (W0 : World) (f : Nat) (args : List V) (r : V) : Prop :=
  ∀ (w : World) (G : Gh) (vals : Array Value), vals.size = args.length → Base gl W0 G w → (∀ b, b < w.heap.size → ∀ k, G b ≠ .box k) →
    (∀ (i : Nat) x, args[i]? = some x → okArg x = true ∧ SimV w G (fun _ => 0) i (vals.getD i undef) x) →
    Calls P f vals w fun e w' => ∃ v G', e = .returned v ∧ okRes r = true ∧ SimV w' G' (fun _ => 0) 0 v r ∧ Keep w G w' G' ∧ Base gl W0 G' w'

section
variable {P : Program} {gl : Nat → Option D} {W0 w0 : World} {G0 : Gh} {N : Nat} {G : Gh} {Bf : Nat → Nat} {rs : RS} {a : Act} {w : World} {cf : Nat → List V → Option V} {dst : Option Nat} {e : Eff}

theorem RelD.congrE {E E' : Nat → Option Nat} {w : World} (h : E = E') {v : Value} {x : D} (r : RelD w E v x) : RelD w E' v x := h ▸ r

/-- One operand that is handed on. -/
theorem take_sound (h : Sim gl W0 w0 G0 N G Bf rs a w) {X : Operand} {mv : Bool} {x : Opd} {v : V} {ss : List (Nat × V)} (ho : opdOK X x = true) (ht : take gl rs.env mv x = some (v, ss)) :
    (∃ d, v = .d d ∧ ss = [] ∧ RelD w G.E (a.eval X) d) ∨ ∃ sz xs, v = .own sz xs ∧ mv = true ∧ ss = leave x sz xs ∧ ev gl rs.env x = some (.own sz xs) := by
  simp only [take] at ht
  split at ht
  case h_1 sz xs hx =>
    split at ht
    case isTrue hm =>
      cases ht
      exact .inr ⟨sz, xs, rfl, hm, rfl, hx⟩
    case isFalse =>
      cases ht
      obtain ⟨s, hs, _⟩ := h.ev ho hx
      exact .inl ⟨_, rfl, rfl, OwnRel.read hs⟩
  case h_2 d hx =>
    cases ht
    obtain ⟨s, hs, _⟩ := h.ev ho hx
    exact .inl ⟨d, rfl, rfl, hs⟩
  case h_3 => cases ht

theorem noOwn_of_all : ∀ {vs : List V}, vs.all (fun x => !isOwn x) = true → ∀ v ∈ vs, isOwn v = false := by
  intro vs h v hv
  have := List.all_eq_true.1 h v hv
  simpa using this

/-- The operands of a call: at most one of them is a tail. -/
theorem takeArgs_sound (h : Sim gl W0 w0 G0 N G Bf rs a w) : ∀ (Xs : List Operand) (xs : List (Bool × Opd)) (vs : List V) (ss : List (Nat × V)), argsOK Xs xs = true → takeArgs gl rs.env xs = some (vs, ss) → oneOwn vs = true →
    vs.length = Xs.length ∧
    ((ss = [] ∧ ∀ (i : Nat) v, vs[i]? = some v → ∃ d X, v = .d d ∧ Xs[i]? = some X ∧ RelD w G.E (a.eval X) d) ∨
     ∃ i0 X0 x0 sz zs, Xs[i0]? = some X0 ∧ vs[i0]? = some (.own sz zs) ∧ opdOK X0 x0 = true ∧ ev gl rs.env x0 = some (.own sz zs) ∧ ss = leave x0 sz zs ∧
       ∀ (i : Nat) v, i ≠ i0 → vs[i]? = some v → ∃ d X, v = .d d ∧ Xs[i]? = some X ∧ RelD w G.E (a.eval X) d)
  | [], [], vs, ss, ho, ht, h1 => by
    simp [takeArgs] at ht
    obtain ⟨rfl, rfl⟩ := ht
    exact ⟨rfl, .inl ⟨rfl, by simp⟩⟩
  | [], _ :: _, vs, ss, ho, ht, h1 => by simp [argsOK] at ho
  | _ :: _, [], vs, ss, ho, ht, h1 => by simp [argsOK] at ho
  | X :: Xs, (mv, x) :: xs, vs, ss, ho, ht, h1 => by
    simp only [argsOK, Bool.and_eq_true] at ho
    simp only [takeArgs, Option.bind_eq_some_iff, Option.some.injEq, Prod.mk.injEq] at ht
    obtain ⟨⟨v, s1⟩, hv, ⟨vs', ss'⟩, hvs, rfl, rfl⟩ := ht
    simp only at hvs ⊢
    rcases take_sound h ho.1 hv with ⟨d, rfl, rfl, hd⟩ | ⟨sz, zs, rfl, rfl, rfl, hx⟩
    · have h1' : oneOwn vs' = true := by simpa [oneOwn, isOwn] using h1
      obtain ⟨hl, hr⟩ := takeArgs_sound h Xs xs vs' ss' ho.2 hvs h1'
      refine ⟨by simp [hl], ?_⟩
      rcases hr with ⟨rfl, hr⟩ | ⟨i0, X0, x0, sz, zs, g1, g2, g3, g4, g5, hr⟩
      · refine .inl ⟨rfl, fun i v hi => ?_⟩
        cases i with
        | zero => simp at hi; subst hi; exact ⟨d, X, rfl, rfl, hd⟩
        | succ i => simpa using hr i v (by simpa using hi)
      · refine .inr ⟨i0 + 1, X0, x0, sz, zs, by simpa using g1, by simpa using g2, g3, g4, by simpa using g5, fun i v hne hi => ?_⟩
        cases i with
        | zero => simp at hi; subst hi; exact ⟨d, X, rfl, rfl, hd⟩
        | succ i => simpa using hr i v (by omega) (by simpa using hi)
    · have hall : vs'.all (fun x => !isOwn x) = true := by simpa [oneOwn, isOwn] using h1
      have hone : oneOwn vs' = true := by
        clear hvs h1
        induction vs' with
        | nil => rfl
        | cons y r ih =>
          have hy := noOwn_of_all hall y (by simp)
          simp only [List.all_cons, Bool.and_eq_true] at hall
          simp [oneOwn, hy, ih hall.2]
      obtain ⟨hl, hr⟩ := takeArgs_sound h Xs xs vs' ss' ho.2 hvs hone
      refine ⟨by simp [hl], .inr ⟨0, X, x, sz, zs, rfl, rfl, ho.1, hx, ?_, fun i v hne hi => ?_⟩⟩
      · rcases hr with ⟨rfl, hr⟩ | ⟨i0, X0, x0, sz', zs', g1, g2, _⟩
        · simp
        · have := noOwn_of_all hall _ (List.mem_of_getElem? g2)
          simp [isOwn] at this
      · rcases hr with ⟨rfl, hr⟩ | ⟨i0, X0, x0, sz', zs', g1, g2, _⟩
        · cases i with
          | zero => exact absurd rfl hne
          | succ i => simpa using hr i v (by simpa using hi)
        · have := noOwn_of_all hall _ (List.mem_of_getElem? g2)
          simp [isOwn] at this

/-- What the callee sees of the caller's memory. -/
def mask (G : Gh) : Gh := fun b => match G b with
  | .own e _ => .com e
  | .com e => .com e
  | _ => .no
theorem mask_E (G : Gh) : (mask G).E = G.E := by
  funext b
  simp only [Gh.E, mask]
  cases G b <;> rfl

theorem Base.congr {G' : Gh} (h : Base gl W0 G w) (hE : G'.E = G.E) (hf : ∀ b, w.heap.size ≤ b → G' b = .no) (hc : ∀ b e, b < W0.heap.size → G b = .com e → G' b = .com e) : Base gl W0 G' w :=
  ⟨hf, fun i x hx => by rw [hE]; exact h.glob i x hx, h.below, fun b hb => by obtain ⟨e, he⟩ := h.com b hb; exact ⟨e, hc b e hb he⟩⟩

theorem after_call {w' : World} {G1 G2 : Gh} {moved : Option Nat} {v : Value} {r : V} {k : Nat} (hf : ∀ b, w.heap.size ≤ b → G b = .no)
    (hm : ∀ g, moved = some g → ∃ e0 s i, G g = .own e0 s ∧ G1 g = .own e0 i) (hrest : ∀ b, moved ≠ some b → G1 b = mask G b) (keep : Keep w G1 w' G2) (base : Base gl W0 G2 w')
    (hr : SimV w' G2 (fun _ => 0) 0 v r) (hok : okRes r = true) : ∃ G', SimV w' G' Bf k v r ∧ Evo (fun b => moved = some b) w G w' G' := by
  have hmask : ∀ b e s, mask G b ≠ .own e s := fun b e s hh => by
    simp only [mask] at hh
    cases hg : G b <;> rw [hg] at hh <;> cases hh
  let G' : Gh := fun b =>
    if isOwn r = true ∧ v.ownBlock = some b then (match (G2 b).ext with | some e => .own e k | none => .no)
    else if b < w.heap.size ∧ moved ≠ some b then G b
    else (match (G2 b).ext with | some e => .com e | none => .no)
  have hold : ∀ b, b < w.heap.size → moved ≠ some b → G2 b = mask G b ∧ w'.heap[b]? = w.heap[b]? := fun b hb hne => by
    have h1 := hrest b hne
    obtain ⟨h2, h3⟩ := keep.rest b hb (fun e s hh => hmask b e s (h1.symm.trans hh))
    exact ⟨h2.trans h1, h3⟩
  have hE : G'.E = G2.E := by
    funext b
    show (G' b).ext = (G2 b).ext
    simp only [G']
    split
    · cases (G2 b).ext <;> rfl
    · split
      · rename_i hb
        rw [(hold b hb.1 hb.2).1]
        have := congrFun (mask_E G) b
        exact this.symm
      · cases (G2 b).ext <;> rfl
  have hres : SimV w' G' Bf k v r := by
    cases r with
    | d x => exact RelD.congrE hE.symm hr
    | own sz xs =>
      obtain ⟨h1, h2, h3⟩ := hr
      refine ⟨h1, h2, ?_⟩
      rcases h3 with h3 | ⟨g, cap, cur, T, rfl, hg, hc, hcm, hcs, hG, hrr⟩
      · exact .inl h3
      · refine .inr ⟨g, cap, cur, T, rfl, hg, hc, hcm, hcs, ?_, fun j x hj => RelD.congrE hE.symm (hrr j x hj)⟩
        simp only [G', isOwn, Value.ownBlock, and_self, if_true, hG, Gs.ext]
    | tup xs =>
      obtain ⟨vs, hv, hs, hrr⟩ := hr
      exact ⟨vs, hv, hs, fun j x hj => RelD.congrE hE.symm (hrr j x hj)⟩
    | lref s o => cases hok
    | cref x => cases hok
    | iter l p => cases hok
    | un => cases hok
  have hown2 : isOwn r = true → ∀ b, v.ownBlock = some b → ∃ e, G2 b = .own e 0 := by
    intro hi b hb
    cases r <;> simp [isOwn] at hi
    obtain ⟨_, _, h3⟩ := hr
    rcases h3 with ⟨rfl, _⟩ | ⟨g, cap, cur, T, rfl, hg, hc, hcm, hcs, hG, hrr⟩
    · simp [Value.ownBlock] at hb
    · simp [Value.ownBlock] at hb; subst hb; exact ⟨_, hG⟩
  refine ⟨G', hres, keep.os, keep.tape, keep.output, keep.size, fun b hb hne => ?_, fun b hb hmv => ?_, fun b hb => ?_⟩
  · obtain ⟨h1, h2⟩ := hold b hb hne
    refine ⟨?_, h2⟩
    simp only [G']
    rw [if_neg, if_pos ⟨hb, hne⟩]
    rintro ⟨hi, hv⟩
    obtain ⟨e, he⟩ := hown2 hi b hv
    exact hmask b e 0 (h1.symm.trans he)
  · obtain ⟨e0, s, i, g1, g2⟩ := hm b hmv
    obtain ⟨⟨e', h1, h2⟩, h3⟩ := keep.own b hb e0 i g2
    refine .inl ⟨e0, s, g1, ⟨e', ?_, h2⟩, h3⟩
    have := congrFun hE b
    exact this.trans h1
  · have h1 := base.fresh b hb
    simp only [G', h1, Gs.ext]
    split
    · rfl
    · rw [if_neg]
      rintro ⟨hb2, _⟩
      have := keep.size
      omega

theorem call_sound (h : Sim gl W0 w0 G0 N G Bf rs a w) (hn : ∀ b, b < w0.heap.size → ∀ k, G0 b ≠ .box k) {o : Oper} (hd : ∀ d, o.dst = some d → d < N) {f : Nat} {args : List (Bool × Opd)} (hc : chkOp P o.op (.call f args) = true) (he : eff gl cf o.dst rs (.call f args) = some e)
    (hcf : ∀ vs r, cf f vs = some r → CallOK P gl W0 f vs r) {K : Act → World → Prop} {Q : Exit → Act → World → Prop} (hK : ∀ G' Bf' a' w', Sim gl W0 w0 G0 N G' Bf' (applyEff o.dst rs e) a' w' → K a' w') : o.wp P a w K Q := by
  obtain ⟨d, op, ty, pos, after, guard⟩ := o
  cases op <;> try (simp only [chkOp, Bool.false_eq_true] at hc; done)
  case call c =>
    obtain ⟨callee, args', argTypes⟩ := c
    cases callee <;> try (simp only [chkOp, Bool.false_eq_true] at hc; done)
    case value cv =>
      cases cv <;> try (simp only [chkOp, Bool.false_eq_true] at hc; done)
      case func f' =>
        simp only [chkOp, Bool.and_eq_true, beq_iff_eq] at hc
        obtain ⟨⟨rfl, hargs⟩, hfn⟩ := hc
        obtain ⟨fn, hff, hbody, hname⟩ : ∃ fn, P.funcs[f']? = some fn ∧ fn.body.isSome = true ∧ fn.name ≠ "runtime.NumGoroutine" := by
          cases hff : P.funcs[f']? with
          | none => rw [hff] at hfn; cases hfn
          | some fn => rw [hff] at hfn; simp only [Bool.and_eq_true, bne_iff_ne] at hfn; exact ⟨fn, rfl, hfn.1, hfn.2⟩
        simp only [eff, Option.bind_eq_some_iff, Option.ite_none_right_eq_some, Option.map_eq_some_iff] at he
        obtain ⟨⟨vs, ss⟩, hta, hone, r, hr, rfl⟩ := he
        simp only at hr hone
        obtain ⟨hlen, hcase⟩ := takeArgs_sound h args'.toList args vs ss hargs hta hone
        have hok := hcf vs r hr
        -- the run of the operation
        have hrun : (execOp a.eval ⟨d, .call { callee := .value (.func f'), args := args', argTypes }, ty, pos, after, guard⟩).run P w = .ok (.enter f' (args'.map a.eval)) w := by
          have hnb : fn.body ≠ none := by intro hb; simp [hb] at hbody
          simp [execOp, resolve, Deferred.ofValue, Act.eval, invoke, callFunc, hff, hname, hnb]
        unfold Oper.wp
        rw [hrun]
        simp only [Oper.upon]
        have hvals : (args'.map a.eval).size = vs.length := by rw [hlen]; simp
        have hget : ∀ (i : Nat) X, args'.toList[i]? = some X → (args'.map a.eval).getD i undef = a.eval X := fun i X hi => by
          rw [Array.getElem?_toList] at hi
          simp [Array.getD_eq_getD_getElem?, Array.getElem?_map, hi]
        have hmbox : ∀ b k, mask G b ≠ .box k := fun b k hh => by
          simp only [mask] at hh
          cases hg : G b <;> rw [hg] at hh <;> cases hh
        have hmbase : Base gl W0 (mask G) w := h.base.congr (mask_E G) (fun b hb => by simp [mask, h.base.fresh b hb]) (fun b e _ he => by simp [mask, he])
        have hnl : okRes r = true → ∀ s' o', r ≠ .lref s' o' := fun hh s' o' hq => by subst hq; cases hh
        rcases hcase with ⟨rfl, hall⟩ | ⟨i0, X0, x0, sz, zs, g1, g2, g3, g4, rfl, hall⟩
        · refine (hok w (mask G) _ hvals hmbase (fun b _ k => hmbox b k) fun i x hi => ?_).mono ?_
          · obtain ⟨dd, X, rfl, hX, hd⟩ := hall i x hi
            refine ⟨rfl, ?_⟩
            show RelD w (mask G).E _ _
            rw [mask_E, hget i X hX]
            exact hd
          · rintro e w' ⟨v, G2, rfl, hokr, hres, keep, base⟩
            obtain ⟨G', hs', ev⟩ := after_call (Bf := Bf) (k := d.getD 0) (moved := none) h.base.fresh (fun g hg => by cases hg) (fun b _ => rfl) keep base hres hokr
            exact hK _ _ _ _ (h.grown hn hd hs' (hnl hokr) ev fun b hb => by cases hb)
        · obtain ⟨s, hs, hss⟩ := h.ev g3 g4
          have hother : ∀ (G1 : Gh), G1.E = G.E → ∀ (i : Nat) x, i ≠ i0 → vs[i]? = some x → okArg x = true ∧ SimV w G1 (fun _ => 0) i ((args'.map a.eval).getD i undef) x := fun G1 hE i x hne hi => by
            obtain ⟨dd, X, rfl, hX, hd⟩ := hall i x hne hi
            refine ⟨rfl, ?_⟩
            show RelD w G1.E _ _
            rw [hE, hget i X hX]
            exact hd
          obtain ⟨hz1, hz2, hz3⟩ := hs
          rcases hz3 with ⟨hnil, rfl⟩ | ⟨g, cap, cur, T, hvg, hg, hcc, hcm, hcs, hG, hrr⟩
          · refine (hok w (mask G) _ hvals hmbase (fun b _ k => hmbox b k) fun i x hi => ?_).mono ?_
            · by_cases hii : i = i0
              · subst hii
                rw [g2] at hi
                cases hi
                refine ⟨rfl, ?_⟩
                rw [hget i X0 g1]
                exact ⟨hz1, hz2, .inl ⟨hnil, rfl⟩⟩
              · exact hother _ (mask_E G) i x hii hi
            · rintro e w' ⟨v, G2, rfl, hokr, hres, keep, base⟩
              obtain ⟨G', hs', ev⟩ := after_call (Bf := Bf) (k := d.getD 0) (moved := none) h.base.fresh (fun g hg => by cases hg) (fun b _ => rfl) keep base hres hokr
              exact hK _ _ _ _ (h.moved hn hd g3 g4 (s := s) ⟨hz1, hz2, .inl ⟨hnil, rfl⟩⟩ hss hs' (hnl hokr) ev fun b hb => by cases hb)
          · let G1 : Gh := fun b => if b = g then .own (zs.length * sz) i0 else mask G b
            have hE1 : G1.E = G.E := by
              funext b
              show (G1 b).ext = (G b).ext
              simp only [G1]
              split
              · rename_i hb; subst hb; rw [hG]; rfl
              · exact congrFun (mask_E G) b
            have hgl := lt_of_heap hg
            have hb1 : Base gl W0 G1 w := h.base.congr hE1 (fun b hb => by simp only [G1]; rw [if_neg (by omega)]; simp [mask, h.base.fresh b hb]) (fun b e hb he => by
              simp only [G1]
              rw [if_neg (by intro hq; subst hq; rw [hG] at he; cases he)]
              simp [mask, he])
            refine (hok w G1 _ hvals hb1 (fun b _ k => by
              simp only [G1]
              split
              · simp
              · exact hmbox b k) fun i x hi => ?_).mono ?_
            · by_cases hii : i = i0
              · subst hii
                rw [g2] at hi
                cases hi
                refine ⟨rfl, ?_⟩
                rw [hget i X0 g1]
                exact ⟨hz1, hz2, .inr ⟨g, cap, cur, T, hvg, hg, hcc, hcm, hcs, by simp [G1], fun j x hj => RelD.congrE hE1.symm (hrr j x hj)⟩⟩
              · exact hother _ hE1 i x hii hi
            · rintro e w' ⟨v, G2, rfl, hokr, hres, keep, base⟩
              obtain ⟨G', hs', ev⟩ := after_call (Bf := Bf) (k := d.getD 0) (moved := some g) h.base.fresh (fun g' hg' => by cases hg'; exact ⟨_, s, i0, hG, by simp [G1]⟩)
                (fun b hb => by simp only [G1]; rw [if_neg]; intro hq; exact hb (by rw [hq])) keep base hres hokr
              exact hK _ _ _ _ (h.moved hn hd g3 g4 (s := s) ⟨hz1, hz2, .inr ⟨g, cap, cur, T, hvg, hg, hcc, hcm, hcs, hG, hrr⟩⟩ hss hs' (hnl hokr) ev fun b hb => by
                cases hb
                exact ⟨⟨_, hG⟩, by rw [hvg]; simp⟩)
end
end Go.Vi
