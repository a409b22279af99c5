/-
  The verified interpreter: regions, in the text's order and in a drawn one.
-/
import Derived.Test.YtedncpnkbpbchaaGreatDoorViCall
set_option linter.unusedVariables false
set_option linter.unusedSimpArgs false
namespace Go.Vi
open Go.RowKit

/-! ### What an operation looks at, what it changes -/
def opdSlots : Opd → List Nat
  | .t s => [s]
  | _ => []
def optSlots : Option Opd → List Nat
  | some x => opdSlots x
  | none => []
def reads : SOp → List Nat
  | .mov _ x | .box x | .load _ x | .neg x | .not x | .cint _ x | .cstr x | .faddr _ _ x | .len _ x | .rng x | .ext x _ => opdSlots x
  | .pick c a b => opdSlots c ++ (opdSlots a ++ opdSlots b)
  | .zbox _ => []
  | .build _ ps => (ps.map fun p => opdSlots p.2.2).flatten
  | .mk _ xs => (xs.map opdSlots).flatten
  | .store _ x v => opdSlots x ++ opdSlots v
  | .bin _ _ x y | .eqs _ _ x y | .iaddr _ x y | .aaddr _ _ _ x y | .sidx x y | .aidx _ _ _ x y | .app _ _ _ x y | .max2 x y | .make _ _ x y => opdSlots x ++ opdSlots y
  | .slcs x lo hi => opdSlots x ++ (optSlots lo ++ optSlots hi)
  | .slc _ x lo hi mx => opdSlots x ++ (optSlots lo ++ (optSlots hi ++ optSlots mx))
  | .nxt s => [s]
  | .call _ args => (args.map fun p => opdSlots p.2).flatten
/-- The slots whose tails, or iterators, an operation takes. -/
def takes : SOp → List Nat
  | .mov true x => opdSlots x
  | .app _ _ _ x _ => opdSlots x
  | .nxt s => [s]
  | .call _ args => ((args.filter (·.1)).map fun p => opdSlots p.2).flatten
  | _ => []
def usesBx : SOp → Bool
  | .zbox _ | .box _ | .load _ _ | .store _ _ _ => true
  | _ => false
def writesBx : SOp → Bool
  | .zbox _ | .box _ | .store _ _ _ => true
  | _ => false
def guardSlots : Option (Nat × Bool) → List Nat
  | some (s, _) => [s]
  | none => []
def SOper.looks (o : SOper) : List Nat := guardSlots o.guard ++ reads o.op
def SOper.lays (o : SOper) : List Nat := o.dst.toList ++ takes o.op
def apart (xs ys : List Nat) : Bool := xs.all fun x => !ys.contains x
/-- Two operations that may be done in either order. -/
def indep (x y : SOper) : Bool :=
  apart x.lays y.lays && apart x.lays y.looks && apart y.lays x.looks && !(writesBx x.op && usesBx y.op) && !(usesBx x.op && writesBx y.op)

theorem apart_spec {xs ys : List Nat} (h : apart xs ys = true) : ∀ x, x ∈ xs → x ∉ ys := by
  intro x hx
  have := List.all_eq_true.1 h x hx
  simpa using this

section congr
variable {gl : Nat → Option D} {cf : Nat → List V → Option V} {e1 e2 : Env}

theorem ev_congr {x : Opd} (h : ∀ s ∈ opdSlots x, e1 s = e2 s) : ev gl e1 x = ev gl e2 x := by
  cases x <;> simp [ev, opdSlots] at h ⊢
  exact h
theorem evD_congr {x : Opd} (h : ∀ s ∈ opdSlots x, e1 s = e2 s) : evD gl e1 x = evD gl e2 x := by simp only [evD, ev_congr h]
theorem evI_congr {x : Opd} (h : ∀ s ∈ opdSlots x, e1 s = e2 s) : evI gl e1 x = evI gl e2 x := by simp only [evI, evD_congr h]
theorem take_congr {mv : Bool} {x : Opd} (h : ∀ s ∈ opdSlots x, e1 s = e2 s) : take gl e1 mv x = take gl e2 mv x := by simp only [take, ev_congr h]
theorem bound_congr {d : Nat} {x : Option Opd} (h : ∀ s ∈ optSlots x, e1 s = e2 s) : bound gl e1 d x = bound gl e2 d x := by
  cases x with
  | none => rfl
  | some x => simp only [bound, evI_congr (x := x) h]
theorem evDs_congr : ∀ {xs : List Opd}, (∀ s ∈ (xs.map opdSlots).flatten, e1 s = e2 s) → evDs gl e1 xs = evDs gl e2 xs
  | [], _ => rfl
  | x :: xs, h => by
    simp only [List.map_cons, List.flatten_cons, List.mem_append] at h
    simp only [evDs, evD_congr (x := x) fun s hs => h s (.inl hs), evDs_congr (xs := xs) fun s hs => h s (.inr hs)]
theorem takeArgs_congr : ∀ {xs : List (Bool × Opd)}, (∀ s ∈ (xs.map fun p => opdSlots p.2).flatten, e1 s = e2 s) → takeArgs gl e1 xs = takeArgs gl e2 xs
  | [], _ => rfl
  | (mv, x) :: xs, h => by
    simp only [List.map_cons, List.flatten_cons, List.mem_append] at h
    simp only [takeArgs, take_congr (x := x) fun s hs => h s (.inl hs), takeArgs_congr (xs := xs) fun s hs => h s (.inr hs)]

theorem eff_congr {dst : Option Nat} {b1 b2 : Bx} {so : SOp} (h : ∀ s ∈ reads so, e1 s = e2 s) (hb : usesBx so = true → b1 = b2) : eff gl cf dst ⟨e1, b1⟩ so = eff gl cf dst ⟨e2, b2⟩ so := by
  cases so <;> simp only [reads, List.mem_append] at h
  case mov mv x => simp only [eff, ev_congr h, take_congr h]
  case pick c x y => simp only [eff, evD_congr fun s hs => h s (.inl hs), evD_congr (x := x) fun s hs => h s (.inr (.inl hs)), evD_congr (x := y) fun s hs => h s (.inr (.inr hs)), apply_ite (evD gl e1), apply_ite (evD gl e2)]
  case zbox cs => simp only [eff, hb rfl]
  case box x => simp only [eff, evD_congr h, hb rfl]
  case build z ps =>
    have : ∀ s ∈ ((ps.map (·.2.2)).map opdSlots).flatten, e1 s = e2 s := by simpa [List.map_map, Function.comp_def] using h
    simp only [eff, evDs_congr this]
  case mk sz xs => simp only [eff, evDs_congr h]
  case load n x => simp only [eff, ev_congr h, hb rfl]
  case store n x v => simp only [eff, ev_congr fun s hs => h s (.inl hs), evD_congr (x := v) fun s hs => h s (.inr hs), hb rfl]
  case bin k op x y => simp only [eff, evD_congr (x := x) fun s hs => h s (.inl hs), evD_congr (x := y) fun s hs => h s (.inr hs)]
  case eqs neg n x y => simp only [eff, evD_congr (x := x) fun s hs => h s (.inl hs), evD_congr (x := y) fun s hs => h s (.inr hs)]
  case neg x => simp only [eff, evD_congr h]
  case not x => simp only [eff, evD_congr h]
  case cint k x => simp only [eff, evD_congr h]
  case cstr x => simp only [eff, evD_congr h]
  case faddr off n x => simp only [eff, ev_congr h]
  case iaddr sz x y => simp only [eff, evD_congr (x := x) fun s hs => h s (.inl hs), evI_congr (x := y) fun s hs => h s (.inr hs)]
  case aaddr len sz n x y => simp only [eff, ev_congr (x := x) fun s hs => h s (.inl hs), evI_congr (x := y) fun s hs => h s (.inr hs)]
  case sidx x y => simp only [eff, evD_congr (x := x) fun s hs => h s (.inl hs), evI_congr (x := y) fun s hs => h s (.inr hs)]
  case aidx len sz n x y => simp only [eff, evD_congr (x := x) fun s hs => h s (.inl hs), evI_congr (x := y) fun s hs => h s (.inr hs)]
  case app str sz bytes x y => simp only [eff, ev_congr (x := x) fun s hs => h s (.inl hs), evD_congr (x := y) fun s hs => h s (.inr hs)]
  case len str x => simp only [eff, evD_congr h]
  case max2 x y => simp only [eff, evD_congr (x := x) fun s hs => h s (.inl hs), evD_congr (x := y) fun s hs => h s (.inr hs)]
  case make z b x y => simp only [eff, evI_congr (x := x) fun s hs => h s (.inl hs), evI_congr (x := y) fun s hs => h s (.inr hs)]
  case slcs x lo hi => simp only [eff, evD_congr (x := x) fun s hs => h s (.inl hs), bound_congr (x := lo) fun s hs => h s (.inr (.inl hs)), bound_congr (x := hi) fun s hs => h s (.inr (.inr hs))]
  case slc sz x lo hi mx => simp only [eff, evD_congr (x := x) fun s hs => h s (.inl hs), bound_congr (x := lo) fun s hs => h s (.inr (.inl hs)), bound_congr (x := hi) fun s hs => h s (.inr (.inr (.inl hs))), bound_congr (x := mx) fun s hs => h s (.inr (.inr (.inr hs)))]
  case rng x => simp only [eff, evD_congr h]
  case nxt s => simp only [eff, h s (by simp)]
  case ext x i => simp only [eff, ev_congr h]
  case call f args => simp only [eff, takeArgs_congr h]

theorem take_keys {mv : Bool} {x : Opd} {v : V} {ss : List (Nat × V)} (h : take gl e1 mv x = some (v, ss)) : ∀ p ∈ ss, mv = true ∧ p.1 ∈ opdSlots x := by
  intro p hp
  simp only [take] at h
  split at h
  · split at h
    case isTrue hm =>
      cases h
      cases x <;> simp at hp
      subst hp
      exact ⟨hm, by simp [opdSlots]⟩
    case isFalse => cases h; simp at hp
  · cases h; simp at hp
  · cases h
theorem takeArgs_keys : ∀ {xs : List (Bool × Opd)} {vs : List V} {ss : List (Nat × V)}, takeArgs gl e1 xs = some (vs, ss) → ∀ p ∈ ss, p.1 ∈ ((xs.filter (·.1)).map fun p => opdSlots p.2).flatten
  | [], vs, ss, h, p, hp => by simp [takeArgs] at h; rw [h.2] at hp; cases hp
  | (mv, x) :: xs, vs, ss, h, p, hp => by
    simp only [takeArgs, Option.bind_eq_some_iff, Option.some.injEq, Prod.mk.injEq] at h
    obtain ⟨⟨v, s1⟩, hv, ⟨vs', s2⟩, hvs, _, rfl⟩ := h
    rcases List.mem_append.1 hp with hp | hp
    · obtain ⟨hm, hk⟩ := take_keys hv p hp
      subst hm
      simp only [List.filter_cons_of_pos, List.map_cons, List.flatten_cons, List.mem_append]
      exact .inl hk
    · have := takeArgs_keys hvs p hp
      cases mv
      · simpa [List.filter_cons_of_neg] using this
      · simp only [List.filter_cons_of_pos, List.map_cons, List.flatten_cons, List.mem_append]
        exact .inr this

theorem eff_keys {dst : Option Nat} {rs : RS} {so : SOp} {e : Eff} (h : eff gl cf dst rs so = some e) : ∀ p ∈ e.sets, p.1 ∈ takes so := by
  intro p hp
  cases so <;> simp only [eff] at h
  case mov mv x =>
    split at h <;> (try (cases h; simp at hp; done))
    simp only [Option.map_eq_some_iff] at h
    obtain ⟨q, hq, rfl⟩ := h
    obtain ⟨hm, hk⟩ := take_keys (v := q.1) (ss := q.2) hq p hp
    subst hm
    exact hk
  case app str sz bytes x y =>
    split at h
    · split at h
      · cases h
        cases x <;> simp at hp
        subst hp; simp [takes, opdSlots]
      · cases h
    · split at h
      · cases h
        cases x <;> simp at hp
        subst hp; simp [takes, opdSlots]
      · cases h
    · cases h
  case nxt s =>
    split at h
    · split at h
      · cases h; simp at hp; subst hp; simp [takes]
      · cases h; simp at hp
    · cases h
  case call f args =>
    simp only [Option.bind_eq_some_iff, Option.ite_none_right_eq_some, Option.map_eq_some_iff] at h
    obtain ⟨⟨vs, ss⟩, h1, _, r, _, rfl⟩ := h
    exact takeArgs_keys h1 p hp
  all_goals
    have key : e.sets = [] := by
      revert h
      repeat' split
      all_goals
        intro h
        first
          | (cases h; done)
          | (cases h; rfl)
          | (simp only [Option.map_eq_some_iff, Option.bind_eq_some_iff, Option.ite_none_right_eq_some, Option.some.injEq] at h
             first
               | (obtain ⟨_, rfl⟩ := h; rfl)
               | (obtain ⟨_, _, rfl⟩ := h; rfl)
               | (obtain ⟨_, _, _, rfl⟩ := h; rfl)
               | (obtain ⟨_, _, _, _, rfl⟩ := h; rfl)
               | (obtain ⟨_, _, _, _, _, rfl⟩ := h; rfl)
               | (obtain ⟨_, _, _, _, _, _, rfl⟩ := h; rfl))
    rw [key] at hp
    cases hp

theorem eff_bx {dst : Option Nat} {rs : RS} {so : SOp} {e : Eff} (h : eff gl cf dst rs so = some e) (hw : writesBx so = false) : e.bx = none := by
  cases so <;> simp only [writesBx, reduceCtorEq] at hw <;> simp only [eff] at h
  all_goals
    revert h
    repeat' split
    all_goals
      intro h
      first
        | (cases h; done)
        | (cases h; rfl)
        | (simp only [Option.map_eq_some_iff, Option.bind_eq_some_iff, Option.ite_none_right_eq_some, Option.some.injEq] at h
           first
             | (obtain ⟨_, rfl⟩ := h; rfl)
             | (obtain ⟨_, _, rfl⟩ := h; rfl)
             | (obtain ⟨_, _, _, rfl⟩ := h; rfl)
             | (obtain ⟨_, _, _, _, rfl⟩ := h; rfl)
             | (obtain ⟨_, _, _, _, _, rfl⟩ := h; rfl)
             | (obtain ⟨_, _, _, _, _, _, rfl⟩ := h; rfl))

theorem setAll_out {e : Env} : ∀ {ss : List (Nat × V)} {s : Nat}, (∀ p ∈ ss, p.1 ≠ s) → setAll e ss s = e s
  | [], s, _ => rfl
  | (k, v) :: r, s, h => by
    have h1 : s ≠ k := fun hh => h (k, v) (by simp) hh.symm
    simp only [setAll]
    rw [setAll_out fun p hp => h p (by simp [hp])]
    simp [upd, h1]
theorem setAll_congr {e1 e2 : Env} : ∀ {ss : List (Nat × V)} {s : Nat}, e1 s = e2 s → setAll e1 ss s = setAll e2 ss s
  | [], s, h => h
  | (k, v) :: r, s, h => by
    simp only [setAll]
    refine setAll_congr ?_
    simp only [upd]
    split
    · rfl
    · exact h
theorem setAll_in {e1 e2 : Env} : ∀ {ss : List (Nat × V)} {s : Nat}, (∃ p ∈ ss, p.1 = s) → setAll e1 ss s = setAll e2 ss s
  | [], s, h => by obtain ⟨p, hp, _⟩ := h; cases hp
  | (k, v) :: r, s, h => by
    simp only [setAll]
    by_cases hr : ∃ p ∈ r, p.1 = s
    · exact setAll_in hr
    · obtain ⟨p, hp, hs⟩ := h
      rcases List.mem_cons.1 hp with rfl | hp
      · refine setAll_congr ?_
        simp only at hs
        simp [upd, hs]
      · exact absurd ⟨p, hp, hs⟩ hr

/-- The keys that an action touches. -/
def actKeys (dst : Option Nat) : Option Eff → List Nat
  | none => dst.toList
  | some e => dst.toList ++ e.sets.map (·.1)
theorem applyAct_out {dst : Option Nat} {rs : RS} {x : Option Eff} {s : Nat} (h : s ∉ actKeys dst x) : (applyAct dst rs x).env s = rs.env s := by
  cases x with
  | none =>
    cases dst with
    | none => rfl
    | some d => simp [actKeys] at h; simp [applyAct, put, upd, h]
  | some e =>
    simp only [actKeys, List.mem_append, not_or, List.mem_map, not_exists, not_and] at h
    have h2 : setAll rs.env e.sets s = rs.env s := setAll_out fun p hp => h.2 p hp
    cases dst with
    | none => simpa [applyAct, applyEff, put] using h2
    | some d =>
      have : s ≠ d := by simpa using h.1
      simp [applyAct, applyEff, put, upd, this, h2]
theorem applyAct_in {dst : Option Nat} {rs rs' : RS} {x : Option Eff} {s : Nat} (h : s ∈ actKeys dst x) : (applyAct dst rs x).env s = (applyAct dst rs' x).env s := by
  cases x with
  | none =>
    cases dst with
    | none => simp [actKeys] at h
    | some d => simp [actKeys] at h; simp [applyAct, put, upd, h]
  | some e =>
    simp only [actKeys, List.mem_append, List.mem_map] at h
    cases dst with
    | none =>
      simp only [applyAct, applyEff, put]
      rcases h with h | h
      · simp at h
      · exact setAll_in h
    | some d =>
      simp only [applyAct, applyEff, put, upd]
      split
      · rfl
      · rename_i hne
        rcases h with h | h
        · simp at h; exact absurd h hne
        · exact setAll_in h

theorem act_keys {o : SOper} {rs : RS} {x : Option Eff} (h : act gl cf o rs = some x) : ∀ s ∈ actKeys o.dst x, s ∈ o.lays := by
  intro s hs
  cases x with
  | none => exact List.mem_append_left _ hs
  | some e =>
    simp only [actKeys, List.mem_append, List.mem_map] at hs
    rcases hs with hs | ⟨p, hp, rfl⟩
    · exact List.mem_append_left _ hs
    · have he : eff gl cf o.dst rs o.op = some e := by
        simp only [act] at h
        split at h
        · simpa using h
        · split at h
          · simpa using h
          · cases h
          · cases h
      exact List.mem_append_right _ (eff_keys he p hp)
theorem act_bx {o : SOper} {rs : RS} {x : Option Eff} (h : act gl cf o rs = some x) (hw : writesBx o.op = false) : (applyAct o.dst rs x).bx = rs.bx := by
  cases x with
  | none => rfl
  | some e =>
    have he : eff gl cf o.dst rs o.op = some e := by
      simp only [act] at h
      split at h
      · simpa using h
      · split at h
        · simpa using h
        · cases h
        · cases h
    simp [applyAct, applyEff, eff_bx he hw]
theorem applyAct_bx {dst : Option Nat} {rs rs' : RS} {x : Option Eff} (h : rs.bx = rs'.bx) : (applyAct dst rs x).bx = (applyAct dst rs' x).bx := by
  cases x with
  | none => exact h
  | some e => simp [applyAct, applyEff, h]
theorem act_congr {o : SOper} {rs rs' : RS} (h : ∀ s ∈ o.looks, rs.env s = rs'.env s) (hb : usesBx o.op = true → rs.bx = rs'.bx) : act gl cf o rs = act gl cf o rs' := by
  have he : eff gl cf o.dst rs o.op = eff gl cf o.dst rs' o.op := by
    obtain ⟨e1, b1⟩ := rs
    obtain ⟨e2, b2⟩ := rs'
    exact eff_congr (fun s hs => h s (List.mem_append_right _ hs)) hb
  simp only [act, he]
  cases hg : o.guard with
  | none => rfl
  | some p =>
    have := h p.1 (by simp [SOper.looks, hg, guardSlots])
    simp only [this]

/-- Two operations that are apart may be done in either order. -/
theorem step_swap {x y : SOper} {rs r1 r2 : RS} (hi : indep x y = true) (h1 : step gl cf x rs = some r1) (h2 : step gl cf y r1 = some r2) : ∃ r1', step gl cf y rs = some r1' ∧ step gl cf x r1' = some r2 := by
  simp only [indep, Bool.and_eq_true, Bool.not_eq_true', Bool.and_eq_false_iff] at hi
  obtain ⟨⟨⟨⟨i1, i2⟩, i3⟩, i4⟩, i5⟩ := hi
  have i1 := apart_spec i1; have i2 := apart_spec i2; have i3 := apart_spec i3
  simp only [step, Option.map_eq_some_iff] at h1 h2
  obtain ⟨ax, hax, rfl⟩ := h1
  obtain ⟨ay, hay, rfl⟩ := h2
  have kx := act_keys hax
  have ky := act_keys hay
  have hy : act gl cf y rs = some ay := by
    rw [← hay]
    refine (act_congr (fun s hs => applyAct_out fun hk => i2 s (kx s hk) hs) fun hu => ?_).symm
    exact act_bx hax (i4.resolve_right (by rw [hu]; simp))
  have hx : act gl cf x (applyAct y.dst rs ay) = some ax := by
    rw [← hax]
    refine act_congr (fun s hs => applyAct_out fun hk => i3 s (ky s hk) hs) fun hu => ?_
    exact act_bx hy (i5.resolve_left (by rw [hu]; simp))
  refine ⟨applyAct y.dst rs ay, by simp [step, hy], ?_⟩
  simp only [step, hx, Option.map_some, Option.some.injEq]
  have henv : (applyAct x.dst (applyAct y.dst rs ay) ax).env = (applyAct y.dst (applyAct x.dst rs ax) ay).env := by
    funext s
    by_cases hsx : s ∈ actKeys x.dst ax
    · have hsy : s ∉ actKeys y.dst ay := fun hk => i1 s (kx s hsx) (ky s hk)
      rw [applyAct_in (rs' := rs) hsx, applyAct_out (rs := applyAct x.dst rs ax) hsy]
    · rw [applyAct_out hsx]
      by_cases hsy : s ∈ actKeys y.dst ay
      · exact applyAct_in hsy
      · rw [applyAct_out hsy, applyAct_out hsy, applyAct_out hsx]
  have hbx : (applyAct x.dst (applyAct y.dst rs ay) ax).bx = (applyAct y.dst (applyAct x.dst rs ax) ay).bx := by
    by_cases hwx : writesBx x.op = true
    · have hwy : writesBx y.op = false := by
        rcases i4 with h | h
        · rw [hwx] at h; cases h
        · cases hq : writesBx y.op
          · rfl
          · have : usesBx y.op = true := by cases hop : y.op <;> rw [hop] at hq <;> simp [writesBx] at hq <;> rfl
            rw [this] at h; cases h
      rw [act_bx hay hwy]
      exact applyAct_bx (act_bx hy hwy)
    · have hwx : writesBx x.op = false := by simpa using hwx
      rw [act_bx hx hwx]
      exact (applyAct_bx (act_bx hax hwx)).symm
  generalize applyAct x.dst (applyAct y.dst rs ay) ax = p at *
  generalize applyAct y.dst (applyAct x.dst rs ax) ay = q at *
  obtain ⟨pe, pb⟩ := p
  obtain ⟨qe, qb⟩ := q
  simp only at henv hbx
  rw [henv, hbx]
end congr
end Go.Vi
