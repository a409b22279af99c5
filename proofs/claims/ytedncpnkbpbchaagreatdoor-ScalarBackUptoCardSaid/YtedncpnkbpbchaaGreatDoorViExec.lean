/-
  The verified interpreter: whole bodies.
-/
import Derived.Test.YtedncpnkbpbchaaGreatDoorViRegion2
import Derived.ScopeJumps
set_option linter.unusedVariables false
set_option linter.unusedSimpArgs false
namespace Go.Vi
open Go.RowKit

def chkCode (P : Program) (N : Nat) : Code → SC → Bool
  | .skip, .skip => true
  | .region _ ops draw, .reg sops _ => chkOpers P N ops ops.toList sops && (!draw || drawOK ops sops)
  | .seq a b, .seq x y => chkCode P N a x && chkCode P N b y
  | .cond c a b, .cond x p q => opdOK c x && chkCode P N a p && chkCode P N b q
  | .block id b, .block id' c => id == id' && chkCode P N b c
  | .loop b, .loop c => chkCode P N b c
  | .exit id, .exit id' => id == id'
  | .scope c, .scope b cur => chkCode P N c b && chkCode P N c cur
  | .label l, .label l' => l == l'
  | .goto l, .goto l' => l == l'
  | .ret, .ret => true
  | _, _ => false

def toExit : Ex → Exit
  | .norm => .normal
  | .exit id => .exit id
  | .goto l => .goto l
  | .ret => .ret

section
variable {P : Program} {gl : Nat → Option D} {W0 w0 : World} {G0 : Gh} {N : Nat} {G : Gh} {Bf : Nat → Nat} {rs : RS} {a : Act} {w : World} {cf : Nat → List V → Option V}

theorem get_keepEnv {all : List Nat} {e : Env} : ∀ {l : List Nat} {s : Nat} {v : V}, get (keepEnv all e l) s = some v → e s = some v ∧ okLive all v = true
  | [], s, v, h => by simp [keepEnv, get] at h
  | t :: l, s, v, h => by
    simp only [keepEnv] at h
    split at h
    case h_1 u hu =>
      split at h
      case isTrue hk =>
        simp only [get] at h
        split at h
        case isTrue hs => subst hs; cases h; exact ⟨hu, hk⟩
        case isFalse => exact get_keepEnv h
      case isFalse => exact get_keepEnv h
    case h_2 => exact get_keepEnv h
theorem get_keepBx {b : Bx} : ∀ {l : List Nat} {s : Nat} {cs : List D}, get (keepBx b l) s = some cs → b s = some cs
  | [], s, v, h => by simp [keepBx, get] at h
  | t :: l, s, v, h => by
    simp only [keepBx] at h
    split at h
    case h_1 u hu =>
      simp only [get] at h
      split at h
      case isTrue hs => subst hs; cases h; exact hu
      case isFalse => exact get_keepBx h
    case h_2 => exact get_keepBx h
theorem keepBx_get {b : Bx} : ∀ {l : List Nat} {s : Nat} {cs : List D}, s ∈ l → b s = some cs → get (keepBx b l) s = some cs
  | [], s, v, h, _ => by simp at h
  | t :: l, s, v, h, hb => by
    simp only [keepBx]
    by_cases hs : s = t
    · subst hs; simp [hb, get]
    · have := keepBx_get (l := l) (by simpa [hs] using h) hb
      split
      · simp [get, hs, this]
      · exact this

theorem Sim.restrict (h : Sim gl W0 w0 G0 N G Bf rs a w) (live : List Nat) : Sim gl W0 w0 G0 N G Bf (Vi.restrict live rs).toRS a w := by
  refine ⟨h.size, h.defers, fun s v hv => h.env s v (get_keepEnv hv).1, fun s cs hc => h.bx s cs (get_keepBx hc), fun s s' o hs => ?_, h.base, h.keep⟩
  obtain ⟨h1, h2⟩ := get_keepEnv hs
  have := h.lref s s' o h1
  obtain ⟨cs, hcs⟩ := Option.isSome_iff_exists.1 this
  have h3 : s' ∈ live := by simpa [okLive] using h2
  have := keepBx_get h3 hcs
  simp only [St.toRS, Vi.restrict]
  rw [this]; rfl

theorem Sim.drawn (h : Sim gl W0 w0 G0 N G Bf rs a w) (n : Nat) : Sim gl W0 w0 G0 N G Bf rs a { w with drawn := n } := by
  obtain ⟨h1, h2, h3, h4, h5, h6, h7⟩ := h
  have m : Mono w G.E { w with drawn := n } G.E := ⟨fun b e h => ⟨e, Nat.le_refl _, h⟩, fun b e _ i _ => rfl⟩
  have ev : Evo (fun _ => False) w G { w with drawn := n } G := ⟨rfl, rfl, rfl, Nat.le_refl _, fun _ _ _ => ⟨rfl, rfl⟩, fun _ _ h => h.elim, h6.fresh⟩
  refine ⟨h1, h2, fun s v hv => (h3 s v hv).evo ev h6.fresh (fun _ _ _ h => h) (fun _ _ _ _ _ h => h) (fun _ _ _ => rfl), fun s cs hc => (h4 s cs hc).evo ev h6.fresh (fun h => h), h5, h6.evo ev, ?_⟩
  exact ⟨h7.os, h7.tape, h7.output, h7.size, h7.own, h7.rest⟩

theorem reg_sound (hmix : P.follows .mixedOrders = true) (h : Sim gl W0 w0 G0 N G Bf rs a w) (hn : ∀ b, b < w0.heap.size → ∀ k, G0 b ≠ .box k) {id : Nat} {ops : Array Oper} {sops : List SOper} {draw : Bool} {live : List Nat} (hc : chkCode P N (.region id ops draw) (.reg sops live) = true)
    (hcf : ∀ f vs r, cf f vs = some r → CallOK P gl W0 f vs r) {rsF : RS} (hr : runOps gl cf sops rs = some rsF) {Q : Exit → Act → World → Prop} (hQ : ∀ G' Bf' a' w', Sim gl W0 w0 G0 N G' Bf' rsF a' w' → Q .normal a' w') : (Code.region id ops draw).wp P Q a w := by
  simp only [chkCode, Bool.and_eq_true, Bool.or_eq_true, Bool.not_eq_true'] at hc
  obtain ⟨hc, hd⟩ := hc
  have hlen := (chkOpers_get hc).1
  have hr' : runIdx gl cf sops (List.range ops.size) rs = some rsF := by
    have := runOps_idx (gl := gl) (cf := cf) sops [] rs
    rw [hr] at this
    simp only [List.nil_append, List.length_nil] at this
    rw [List.range_eq_range', show ops.size = sops.length by simpa using hlen]
    exact this.symm
  cases draw with
  | false => exact wp_region (region_sound h hn hc hcf hQ _ _ _ _ _ _ (by simp) h hr')
  | true =>
    have hdo : drawOK ops sops = true := by simpa using hd
    simp only [drawOK, Bool.and_eq_true] at hdo
    refine wp_region_draw fun t => ?_
    simp only [Region.schedule, hmix, Bool.true_or, if_true]
    refine wpAny_sound ops.size t _ a _ (draw_sound hn hc hdo.1 hdo.2 hcf hQ ops.size _ (List.range ops.size) G Bf rs a _ (by simp) (by simp) (List.pairwise_lt_range) (fun i => ?_) (fun k hk => ?_) (h.drawn _) hr')
    · rw [Array.getElem?_replicate]
      by_cases hi : i < ops.size <;> simp [hi]
    · rw [Array.getElem?_replicate] at hk
      split at hk <;> cases hk

theorem findL_ok : ∀ {c : Code} {b : SC} {l : Nat}, chkCode P N c b = true → (∀ rest, findLabel c l = some rest → ∃ r, findL b l = some r ∧ chkCode P N rest r = true) ∧ (∀ r, findL b l = some r → ∃ rest, findLabel c l = some rest ∧ chkCode P N rest r = true)
  | .seq a1 b1, c, l, h => by
    cases c <;> simp only [chkCode, Bool.false_eq_true] at h
    case seq x y =>
      simp only [Bool.and_eq_true] at h
      obtain ⟨i1, i2⟩ := findL_ok (l := l) h.1
      obtain ⟨j1, j2⟩ := findL_ok (l := l) h.2
      simp only [findLabel, findL]
      cases ha : findLabel a1 l with
      | some rest =>
        obtain ⟨r, hr, hc⟩ := i1 _ ha
        simp only [hr]
        exact ⟨fun _ e => by cases e; exact ⟨_, rfl, by simp [chkCode, hc, h.2]⟩, fun _ e => by cases e; exact ⟨_, rfl, by simp [chkCode, hc, h.2]⟩⟩
      | none =>
        cases hx : findL x l with
        | some r => obtain ⟨_, hh, _⟩ := i2 _ hx; rw [ha] at hh; cases hh
        | none => exact ⟨j1, j2⟩
  | .label l1, c, l, h => by
    cases c <;> simp only [chkCode, Bool.false_eq_true] at h
    case label l2 =>
      simp only [beq_iff_eq] at h
      subst h
      simp only [findLabel, findL]
      by_cases hl : l1 = l
      · subst hl
        simp only [BEq.rfl, if_true, Option.some.injEq]
        exact ⟨fun _ e => ⟨_, rfl, by subst e; rfl⟩, fun _ e => ⟨_, rfl, by subst e; rfl⟩⟩
      · simp [hl]
  | .skip, c, l, h | .region .., c, l, h | .cond .., c, l, h | .block .., c, l, h | .loop .., c, l, h | .exit .., c, l, h | .scope .., c, l, h | .goto .., c, l, h | .ret, c, l, h | .rangeFunc .., c, l, h | .refuse .., c, l, h => by
    cases c <;> simp [chkCode] at h <;> simp [findLabel, findL]

/-- What is to be shown of a run of n steps: of a code, of a loop's next round, of the inside of a scope. -/
structure Good (P : Program) (gl : Nat → Option D) (W0 w0 : World) (G0 : Gh) (N : Nat) (cf : Nat → List V → Option V) (n : Nat) : Prop where
  code : ∀ {c sc st e st' G Bf a w} {Q : Exit → Act → World → Prop}, chkCode P N c sc = true → Sim gl W0 w0 G0 N G Bf (St.toRS st) a w → exec gl cf n sc st = some (e, st') →
    (∀ G' Bf' a' w', Sim gl W0 w0 G0 N G' Bf' st'.toRS a' w' → Q (toExit e) a' w') → c.wp P Q a w
  loop : ∀ {c sc st e st' G Bf a w} {Q : Exit → Act → World → Prop}, chkCode P N c sc = true → Sim gl W0 w0 G0 N G Bf (St.toRS st) a w → exec gl cf n (.loop sc) st = some (e, st') →
    (∀ G' Bf' a' w', Sim gl W0 w0 G0 N G' Bf' st'.toRS a' w' → Q (toExit e) a' w') → ∀ (b : Frame) (k : List Item) (cs : List Frame),
    ∃ x a' w', Q x a' w' ∧ Arrives P (lone (b.at a (.code c :: .inLoop c :: k)) cs w) b k cs x a' w'
  scope : ∀ {c c1 sc cur st e st' G Bf a w} {Q : Exit → Act → World → Prop}, chkCode P N c sc = true → chkCode P N c1 cur = true → Sim gl W0 w0 G0 N G Bf (St.toRS st) a w → exec gl cf n (.scope sc cur) st = some (e, st') →
    (∀ G' Bf' a' w', Sim gl W0 w0 G0 N G' Bf' st'.toRS a' w' → Q (toExit e) a' w') → ∀ (b : Frame) (k : List Item) (cs : List Frame),
    ∃ x a' w', Q x a' w' ∧ Arrives P (lone (b.at a (.code c1 :: .inScope c :: k)) cs w) b k cs x a' w'

/-- The end that a run comes to, known. -/
def Only (e : Ex) (R : Act → World → Prop) : Exit → Act → World → Prop := fun x a w => x = toExit e ∧ R a w

theorem good (hmix : P.follows .mixedOrders = true) (hn : ∀ b, b < w0.heap.size → ∀ k, G0 b ≠ .box k) (hcf : ∀ f vs r, cf f vs = some r → CallOK P gl W0 f vs r) : ∀ n, Good P gl W0 w0 G0 N cf n
  | 0 => ⟨fun _ _ h => by simp [exec] at h, fun _ _ h => by simp [exec] at h, fun _ _ _ h => by simp [exec] at h⟩
  | n + 1 => by
    have ih := good hmix hn hcf n
    have hloop : ∀ {c sc st e st' G Bf a w} {Q : Exit → Act → World → Prop}, chkCode P N c sc = true → Sim gl W0 w0 G0 N G Bf (St.toRS st) a w → exec gl cf (n + 1) (.loop sc) st = some (e, st') →
        (∀ G' Bf' a' w', Sim gl W0 w0 G0 N G' Bf' st'.toRS a' w' → Q (toExit e) a' w') → ∀ (b : Frame) (k : List Item) (cs : List Frame),
        ∃ x a' w', Q x a' w' ∧ Arrives P (lone (b.at a (.code c :: .inLoop c :: k)) cs w) b k cs x a' w' := by
      intro c sc st e st' G Bf a w Q hc hs hr hQ b k cs
      simp only [exec] at hr
      cases he : exec gl cf n sc st with
      | none => rw [he] at hr; cases hr
      | some p =>
        obtain ⟨e1, st1⟩ := p
        rw [he] at hr
        obtain ⟨x, a1, w1, ⟨rfl, G1, Bf1, hs1⟩, harr⟩ := ih.code (Q := Only e1 fun a w => ∃ G Bf, Sim gl W0 w0 G0 N G Bf st1.toRS a w) hc hs he (fun G' Bf' a' w' h => ⟨rfl, G', Bf', h⟩) b (.inLoop c :: k) cs
        cases e1 with
        | norm =>
          obtain ⟨x2, a2, w2, hq2, harr2⟩ := ih.loop hc hs1 hr hQ b k cs
          exact ⟨x2, a2, w2, hq2, .of_steps (Steps.trans harr (.one step_inLoop)) harr2⟩
        | exit id => cases hr; exact ⟨_, a1, w1, hQ _ _ _ _ hs1, .pass (x := .inLoop c) rfl (fun _ _ => .inl (by simp [toExit])) harr⟩
        | goto l => cases hr; exact ⟨_, a1, w1, hQ _ _ _ _ hs1, .pass (x := .inLoop c) rfl (fun _ _ => .inl (by simp [toExit])) harr⟩
        | ret => cases hr; exact ⟨_, a1, w1, hQ _ _ _ _ hs1, .pass (x := .inLoop c) rfl (fun _ _ => .inl (by simp [toExit])) harr⟩
    have hscope : ∀ {c c1 sc cur st e st' G Bf a w} {Q : Exit → Act → World → Prop}, chkCode P N c sc = true → chkCode P N c1 cur = true → Sim gl W0 w0 G0 N G Bf (St.toRS st) a w → exec gl cf (n + 1) (.scope sc cur) st = some (e, st') →
        (∀ G' Bf' a' w', Sim gl W0 w0 G0 N G' Bf' st'.toRS a' w' → Q (toExit e) a' w') → ∀ (b : Frame) (k : List Item) (cs : List Frame),
        ∃ x a' w', Q x a' w' ∧ Arrives P (lone (b.at a (.code c1 :: .inScope c :: k)) cs w) b k cs x a' w' := by
      intro c c1 sc cur st e st' G Bf a w Q hc hc1 hs hr hQ b k cs
      simp only [exec] at hr
      cases he : exec gl cf n cur st with
      | none => rw [he] at hr; cases hr
      | some p =>
        obtain ⟨e1, st1⟩ := p
        rw [he] at hr
        obtain ⟨x, a1, w1, ⟨rfl, G1, Bf1, hs1⟩, harr⟩ := ih.code (Q := Only e1 fun a w => ∃ G Bf, Sim gl W0 w0 G0 N G Bf st1.toRS a w) hc1 hs he (fun G' Bf' a' w' h => ⟨rfl, G', Bf', h⟩) b (.inScope c :: k) cs
        cases e1 with
        | norm => cases hr; exact ⟨.normal, a1, w1, hQ _ _ _ _ hs1, Steps.trans harr (.one step_inScope)⟩
        | exit id => cases hr; exact ⟨.exit id, a1, w1, hQ _ _ _ _ hs1, fun k' hk => harr k' (by simp [exitTo, hk])⟩
        | goto l =>
          simp only at hr
          obtain ⟨f1, f2⟩ := findL_ok (P := P) (N := N) (l := l) hc
          split at hr
          case h_1 rest hrest =>
            obtain ⟨rc, hrc, hcc⟩ := f2 _ hrest
            obtain ⟨x2, a2, w2, hq2, harr2⟩ := ih.scope hc hcc hs1 hr hQ b k cs
            exact ⟨x2, a2, w2, hq2, .of_steps (harr _ (by simp [gotoIn, hrc])) harr2⟩
          case h_2 hno =>
            cases hr
            have : findLabel c l = none := by
              cases hq : findLabel c l with
              | none => rfl
              | some rest => obtain ⟨r, hr, _⟩ := f1 _ hq; rw [hno] at hr; cases hr
            exact ⟨.goto l, a1, w1, hQ _ _ _ _ hs1, fun k' hk => harr k' (by simp [gotoIn, this, hk])⟩
        | ret => cases hr; exact ⟨.ret, a1, w1, hQ _ _ _ _ hs1, harr⟩
    refine ⟨?_, hloop, hscope⟩
    intro c sc st e st' G Bf a w Q hc hs hr hQ
    cases c with
    | skip =>
      cases sc <;> simp only [chkCode, Bool.false_eq_true] at hc
      simp only [exec, Option.some.injEq, Prod.mk.injEq] at hr
      obtain ⟨rfl, rfl⟩ := hr
      exact wp_skip (hQ _ _ _ _ hs)
    | label l =>
      cases sc <;> simp only [chkCode, Bool.false_eq_true] at hc
      simp only [exec, Option.some.injEq, Prod.mk.injEq] at hr
      obtain ⟨rfl, rfl⟩ := hr
      exact wp_label (hQ _ _ _ _ hs)
    | goto l =>
      cases sc <;> simp only [chkCode, Bool.false_eq_true] at hc
      simp only [exec, Option.some.injEq, Prod.mk.injEq] at hr
      obtain ⟨rfl, rfl⟩ := hr
      simp only [beq_iff_eq] at hc
      subst hc
      exact wp_goto (hQ _ _ _ _ hs)
    | exit id =>
      cases sc <;> simp only [chkCode, Bool.false_eq_true] at hc
      simp only [exec, Option.some.injEq, Prod.mk.injEq] at hr
      obtain ⟨rfl, rfl⟩ := hr
      simp only [beq_iff_eq] at hc
      subst hc
      exact wp_exit (hQ _ _ _ _ hs)
    | ret =>
      cases sc <;> simp only [chkCode, Bool.false_eq_true] at hc
      simp only [exec, Option.some.injEq, Prod.mk.injEq] at hr
      obtain ⟨rfl, rfl⟩ := hr
      exact wp_ret (hQ _ _ _ _ hs)
    | rangeFunc => cases sc <;> simp [chkCode] at hc
    | refuse => cases sc <;> simp [chkCode] at hc
    | region id ops draw =>
      cases sc <;> simp only [chkCode, Bool.false_eq_true] at hc
      case reg sops live =>
        simp only [exec, Option.map_eq_some_iff, Prod.mk.injEq] at hr
        obtain ⟨rs', hrun, rfl, rfl⟩ := hr
        exact reg_sound hmix (live := live) hs hn hc hcf hrun fun G' Bf' a' w' h' => hQ _ _ _ _ (h'.restrict live)
    | seq c1 c2 =>
      cases sc <;> simp only [chkCode, Bool.false_eq_true] at hc
      case seq s1 s2 =>
        simp only [Bool.and_eq_true] at hc
        simp only [exec] at hr
        cases he : exec gl cf n s1 st with
        | none => rw [he] at hr; cases hr
        | some p =>
          obtain ⟨e1, st1⟩ := p
          rw [he] at hr
          refine wp_seq (ih.code hc.1 hs he fun G' Bf' a' w' h' => ?_)
          cases e1 with
          | norm => exact ih.code hc.2 h' hr hQ
          | exit id => cases hr; exact hQ _ _ _ _ h'
          | goto l => cases hr; exact hQ _ _ _ _ h'
          | ret => cases hr; exact hQ _ _ _ _ h'
    | cond x c1 c2 =>
      cases sc <;> simp only [chkCode, Bool.false_eq_true] at hc
      case cond y s1 s2 =>
        simp only [Bool.and_eq_true] at hc
        simp only [exec] at hr
        have hb : ∀ b, condOf gl st y = some b → a.eval x = .bool b := fun b hb => by
          simp only [condOf] at hb
          split at hb
          case h_1 b' hv =>
            cases hb
            obtain ⟨s, hs', _⟩ := hs.ev hc.1.1 hv
            exact relD_bool hs'
          case h_2 => cases hb
        split at hr
        case h_1 hcn => exact wp_cond_true (hb _ hcn) (ih.code hc.1.2 hs hr hQ)
        case h_2 hcn => exact wp_cond_false (hb _ hcn) (ih.code hc.2 hs hr hQ)
        case h_3 => cases hr
    | block id c1 =>
      cases sc <;> simp only [chkCode, Bool.false_eq_true] at hc
      case block id' s1 =>
        simp only [Bool.and_eq_true, beq_iff_eq] at hc
        obtain ⟨rfl, hc⟩ := hc
        simp only [exec] at hr
        cases he : exec gl cf n s1 st with
        | none => rw [he] at hr; cases hr
        | some p =>
          obtain ⟨e1, st1⟩ := p
          rw [he] at hr
          refine wp_block (ih.code hc hs he fun G' Bf' a' w' h' => ?_)
          cases e1 with
          | norm => cases hr; exact hQ _ _ _ _ h'
          | exit i =>
            simp only at hr
            split at hr
            case isTrue hi => cases hr; subst hi; simp only [toExit, Exit.inBlock, if_true]; exact hQ _ _ _ _ h'
            case isFalse hi => cases hr; simp only [toExit, Exit.inBlock, hi, if_false]; exact hQ _ _ _ _ h'
          | goto l => cases hr; exact hQ _ _ _ _ h'
          | ret => cases hr; exact hQ _ _ _ _ h'
    | loop c1 =>
      cases sc <;> simp only [chkCode, Bool.false_eq_true] at hc
      case loop s1 =>
        intro b k cs
        obtain ⟨x, a', w', hq, harr⟩ := hloop hc hs hr hQ b k cs
        exact ⟨x, a', w', hq, .of_steps (.one step_loop) harr⟩
    | scope c1 =>
      cases sc <;> simp only [chkCode, Bool.false_eq_true] at hc
      case scope s1 s2 =>
        simp only [Bool.and_eq_true] at hc
        intro b k cs
        obtain ⟨x, a', w', hq, harr⟩ := hscope hc.1 hc.2 hs hr hQ b k cs
        exact ⟨x, a', w', hq, .of_steps (.one step_scope) harr⟩
end
end Go.Vi
