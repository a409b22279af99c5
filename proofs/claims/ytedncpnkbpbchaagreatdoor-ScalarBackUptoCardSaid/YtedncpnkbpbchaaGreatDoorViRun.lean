/-
  The verified interpreter: runs without fuel.
-/
import Derived.Test.YtedncpnkbpbchaaGreatDoorViFn
set_option linter.unusedVariables false
set_option linter.unusedSimpArgs false
namespace Go.Vi

section
variable {gl : Nat → Option D} {cf cf' : Nat → List V → Option V}

/-- More calls are answered. -/
def Le (cf cf' : Nat → List V → Option V) : Prop := ∀ f a r, cf f a = some r → cf' f a = some r

theorem eff_le (h : Le cf cf') {dst : Option Nat} {rs : RS} {so : SOp} {e : Eff} (he : eff gl cf dst rs so = some e) : eff gl cf' dst rs so = some e := by
  cases so
  case call f args =>
    simp only [eff, Option.bind_eq_some_iff] at he ⊢
    obtain ⟨p, h1, h2⟩ := he
    refine ⟨p, h1, ?_⟩
    split at h2
    case isTrue ho =>
      simp only [Option.map_eq_some_iff] at h2
      obtain ⟨v, hv, rfl⟩ := h2
      simp [ho, h _ _ _ hv]
    case isFalse => cases h2
  all_goals exact he

theorem step_le (h : Le cf cf') {o : SOper} {rs rs' : RS} (he : step gl cf o rs = some rs') : step gl cf' o rs = some rs' := by
  simp only [step, act] at he ⊢
  cases hg : o.guard with
  | none =>
    simp only [hg, Option.map_eq_some_iff] at he ⊢
    obtain ⟨x, ⟨e, he, rfl⟩, rfl⟩ := he
    exact ⟨_, ⟨e, eff_le h he, rfl⟩, rfl⟩
  | some q =>
    obtain ⟨g, want⟩ := q
    simp only [hg] at he ⊢
    cases hgt : gate want (rs.env g) with
    | none => rw [hgt] at he; cases he
    | some t =>
      rw [hgt] at he
      cases t
      · exact he
      · simp only [Option.map_eq_some_iff] at he ⊢
        obtain ⟨x, ⟨e, he, rfl⟩, rfl⟩ := he
        exact ⟨_, ⟨e, eff_le h he, rfl⟩, rfl⟩

theorem runOps_le (h : Le cf cf') : ∀ {ops : List SOper} {rs rs' : RS}, runOps gl cf ops rs = some rs' → runOps gl cf' ops rs = some rs'
  | [], rs, rs', he => he
  | o :: ops, rs, rs', he => by
    simp only [runOps, Option.bind_eq_some_iff] at he ⊢
    obtain ⟨r1, h1, h2⟩ := he
    exact ⟨r1, step_le h h1, runOps_le h h2⟩

theorem exec_le (h : Le cf cf') : ∀ {n m : Nat} {c : SC} {st : St} {o : Ex × St}, n ≤ m → exec gl cf n c st = some o → exec gl cf' m c st = some o
  | 0, _, _, _, _, _, he => by simp [exec] at he
  | n + 1, 0, _, _, _, hm, _ => by omega
  | n + 1, m + 1, c, st, o, hm, he => by
    have ih := fun {c st o} => exec_le h (n := n) (m := m) (c := c) (st := st) (o := o) (by omega)
    cases c <;> simp only [exec] at he ⊢
    case skip => exact he
    case reg ops live =>
      simp only [Option.map_eq_some_iff] at he ⊢
      obtain ⟨rs, h1, h2⟩ := he
      exact ⟨rs, runOps_le h h1, h2⟩
    case seq a b =>
      cases hx : exec gl cf n a st with
      | none => rw [hx] at he; cases he
      | some p => rw [hx] at he; rw [ih hx]; obtain ⟨e, st'⟩ := p; cases e <;> first | exact ih he | exact he
    case cond x a b =>
      split at he <;> first | exact ih he | cases he
    case block id b =>
      cases hx : exec gl cf n b st with
      | none => rw [hx] at he; cases he
      | some p => rw [hx] at he; rw [ih hx]; exact he
    case loop b =>
      cases hx : exec gl cf n b st with
      | none => rw [hx] at he; cases he
      | some p => rw [hx] at he; rw [ih hx]; obtain ⟨e, st'⟩ := p; cases e <;> first | exact ih he | exact he
    case exit => exact he
    case scope b cur =>
      cases hx : exec gl cf n cur st with
      | none => rw [hx] at he; cases he
      | some p =>
        rw [hx] at he; rw [ih hx]; obtain ⟨e, st'⟩ := p
        cases e <;> try exact he
        case goto l =>
          simp only at he ⊢
          split at he
          case h_1 rest hr => exact ih he
          case h_2 hr => exact he
    case label => exact he
    case goto => exact he
    case ret => exact he

theorem call_le {M : Mach} : ∀ {n m : Nat}, n ≤ m → Le (call M n) (call M m)
  | 0, _, _, f, a, r, h => by simp [call] at h
  | n + 1, 0, hm, _, _, _, _ => by omega
  | n + 1, m + 1, hm, f, a, r, h => by
    simp only [call] at h ⊢
    split at h
    case h_1 => exact h
    case h_2 hp =>
      split at h
      case h_2 => cases h
      case h_1 sf hsf =>
        split at h
        case isFalse => cases h
        case isTrue ha =>
          simp only [ha, and_self, if_true, Option.bind_eq_some_iff] at h ⊢
          obtain ⟨o, h1, h2⟩ := h
          exact ⟨o, exec_le (call_le (by omega)) (by omega) h1, h2⟩
end

/-! ### The limits -/
section
open Classical
/-- What a function answers. -/
noncomputable def C (M : Mach) (f : Nat) (args : List V) : Option V := if h : ∃ n r, call M n f args = some r then some h.choose_spec.choose else none
/-- What a code comes to. -/
noncomputable def X (M : Mach) (c : SC) (st : St) : Option (Ex × St) := if h : ∃ n o, exec M.glob (call M n) n c st = some o then some h.choose_spec.choose else none
end

section
variable {M : Mach}

theorem C_some {f : Nat} {args : List V} {r : V} : C M f args = some r ↔ ∃ n, call M n f args = some r := by
  unfold C
  constructor
  · intro h
    split at h
    case isTrue hh =>
      cases h
      exact ⟨_, hh.choose_spec.choose_spec⟩
    case isFalse => cases h
  · rintro ⟨n, hn⟩
    have hh : ∃ n r, call M n f args = some r := ⟨n, r, hn⟩
    rw [dif_pos hh]
    have h2 := hh.choose_spec.choose_spec
    have h3 := call_le (Nat.le_max_left n hh.choose) _ _ _ hn
    have h4 := call_le (Nat.le_max_right n hh.choose) _ _ _ h2
    rw [h3] at h4
    exact h4.symm

theorem X_some {c : SC} {st : St} {o : Ex × St} : X M c st = some o ↔ ∃ n, exec M.glob (call M n) n c st = some o := by
  unfold X
  constructor
  · intro h
    split at h
    case isTrue hh =>
      cases h
      exact ⟨_, hh.choose_spec.choose_spec⟩
    case isFalse => cases h
  · rintro ⟨n, hn⟩
    have hh : ∃ n o, exec M.glob (call M n) n c st = some o := ⟨n, o, hn⟩
    rw [dif_pos hh]
    have h2 := hh.choose_spec.choose_spec
    have h3 := exec_le (call_le (Nat.le_max_left n hh.choose)) (Nat.le_max_left n hh.choose) hn
    have h4 := exec_le (call_le (Nat.le_max_right n hh.choose)) (Nat.le_max_right n hh.choose) h2
    rw [h3] at h4
    exact h4.symm

theorem C_call {n f : Nat} {args : List V} {r : V} (h : call M n f args = some r) : C M f args = some r := C_some.2 ⟨n, h⟩

theorem opt_ext {α : Type} {x y : Option α} (h : ∀ a, x = some a ↔ y = some a) : x = y := by
  cases x with
  | none =>
    cases y with
    | none => rfl
    | some b => exact absurd ((h b).2 rfl) (by simp)
  | some a => exact ((h a).1 rfl).symm

theorem le_C (n : Nat) : Le (call M n) (C M) := fun f a r h => C_call h

theorem act_lim {o : SOper} {rs rs' : RS} (h : step M.glob (C M) o rs = some rs') : ∃ n, step M.glob (call M n) o rs = some rs' := by
  have key : ∀ e, eff M.glob (C M) o.dst rs o.op = some e → ∃ n, eff M.glob (call M n) o.dst rs o.op = some e := by
    intro e he
    obtain ⟨dst, g, so⟩ := o
    cases so
    case call f args =>
      simp only [eff, Option.bind_eq_some_iff] at he
      obtain ⟨p, h1, h2⟩ := he
      split at h2
      case isTrue ho =>
        simp only [Option.map_eq_some_iff] at h2
        obtain ⟨v, hv, rfl⟩ := h2
        obtain ⟨n, hn⟩ := C_some.1 hv
        exact ⟨n, by simp [eff, h1, ho, hn]⟩
      case isFalse => cases h2
    all_goals exact ⟨0, he⟩
  simp only [step, act] at h
  cases hg : o.guard with
  | none =>
    simp only [hg, Option.map_eq_some_iff] at h
    obtain ⟨x, ⟨e, he, rfl⟩, rfl⟩ := h
    obtain ⟨n, hn⟩ := key e he
    exact ⟨n, by simp [step, act, hg, hn]⟩
  | some q =>
    obtain ⟨g, want⟩ := q
    simp only [hg] at h
    cases hgt : gate want (rs.env g) with
    | none => rw [hgt] at h; cases h
    | some t =>
      rw [hgt] at h
      cases t
      · exact ⟨0, by simp only [step, act, hg, hgt]; exact h⟩
      · simp only [Option.map_eq_some_iff] at h
        obtain ⟨x, ⟨e, he, rfl⟩, rfl⟩ := h
        obtain ⟨n, hn⟩ := key e he
        exact ⟨n, by simp only [step, act, hg, hgt, hn, Option.map_some]⟩

theorem runOps_lim : ∀ {ops : List SOper} {rs rs' : RS}, runOps M.glob (C M) ops rs = some rs' → ∃ n, runOps M.glob (call M n) ops rs = some rs'
  | [], rs, rs', h => ⟨0, h⟩
  | o :: ops, rs, rs', h => by
    simp only [runOps, Option.bind_eq_some_iff] at h
    obtain ⟨r1, h1, h2⟩ := h
    obtain ⟨n, hn⟩ := act_lim h1
    obtain ⟨m, hm⟩ := runOps_lim h2
    refine ⟨max n m, ?_⟩
    simp only [runOps, Option.bind_eq_some_iff]
    exact ⟨r1, step_le (call_le (Nat.le_max_left n m)) hn, runOps_le (call_le (Nat.le_max_right n m)) hm⟩

theorem X_step {c : SC} {st : St} {o : Ex × St} : X M c st = some o ↔ ∃ n, exec M.glob (call M n) (n + 1) c st = some o := by
  rw [X_some]
  constructor
  · rintro ⟨n, hn⟩; exact ⟨n, exec_le (call_le (Nat.le_refl n)) (by omega) hn⟩
  · rintro ⟨n, hn⟩; exact ⟨n + 1, exec_le (call_le (by omega)) (Nat.le_refl _) hn⟩

theorem X_up {n m : Nat} {c : SC} {st : St} {o : Ex × St} (h : exec M.glob (call M n) n c st = some o) (hm : n ≤ m) : exec M.glob (call M m) m c st = some o := exec_le (call_le hm) hm h

theorem X_skip {st : St} : X M .skip st = some (.norm, st) := X_step.2 ⟨0, rfl⟩
theorem X_exit {id : Nat} {st : St} : X M (.exit id) st = some (.exit id, st) := X_step.2 ⟨0, rfl⟩
theorem X_label {l : Nat} {st : St} : X M (.label l) st = some (.norm, st) := X_step.2 ⟨0, rfl⟩
theorem X_goto {l : Nat} {st : St} : X M (.goto l) st = some (.goto l, st) := X_step.2 ⟨0, rfl⟩
theorem X_ret {st : St} : X M .ret st = some (.ret, st) := X_step.2 ⟨0, rfl⟩
theorem X_reg {ops : List SOper} {live : List Nat} {st : St} : X M (.reg ops live) st = (runOps M.glob (C M) ops st.toRS).map fun rs => (.norm, restrict live rs) := by
  apply opt_ext
  intro o
  rw [X_step]
  simp only [exec, Option.map_eq_some_iff]
  constructor
  · rintro ⟨n, rs, h1, h2⟩; exact ⟨rs, runOps_le (le_C n) h1, h2⟩
  · rintro ⟨rs, h1, h2⟩
    obtain ⟨n, hn⟩ := runOps_lim h1
    exact ⟨n, rs, hn, h2⟩

/-- One code behind another. -/
noncomputable def andThen (M : Mach) (b : SC) : Option (Ex × St) → Option (Ex × St)
  | some (.norm, st) => X M b st
  | r => r
theorem X_seq {a b : SC} {st : St} : X M (.seq a b) st = andThen M b (X M a st) := by
  apply opt_ext
  intro o
  rw [X_step]
  simp only [exec]
  constructor
  · rintro ⟨n, h⟩
    cases hx : exec M.glob (call M n) n a st with
    | none => rw [hx] at h; cases h
    | some p =>
      rw [hx] at h
      rw [X_some.2 ⟨n, hx⟩]
      obtain ⟨e, st'⟩ := p
      cases e <;> first | exact X_some.2 ⟨n, h⟩ | exact h
  · intro h
    cases hx : X M a st with
    | none => rw [hx] at h; cases h
    | some p =>
      rw [hx] at h
      obtain ⟨n, hn⟩ := X_some.1 hx
      obtain ⟨e, st'⟩ := p
      cases e
      case norm =>
        obtain ⟨m, hm⟩ := X_some.1 h
        exact ⟨max n m, by rw [X_up hn (Nat.le_max_left n m)]; exact X_up hm (Nat.le_max_right n m)⟩
      all_goals exact ⟨n, by rw [hn]; exact h⟩

theorem X_cond {x : Opd} {a b : SC} {st : St} : X M (.cond x a b) st = match condOf M.glob st x with | some true => X M a st | some false => X M b st | none => none := by
  apply opt_ext
  intro o
  rw [X_step]
  simp only [exec]
  cases condOf M.glob st x with
  | none => simp
  | some t => cases t <;> exact X_some.symm

/-- The end of a block. -/
def outOf (id : Nat) : Option (Ex × St) → Option (Ex × St)
  | some (.exit i, st) => if i = id then some (.norm, st) else some (.exit i, st)
  | r => r
theorem X_block {id : Nat} {b : SC} {st : St} : X M (.block id b) st = outOf id (X M b st) := by
  apply opt_ext
  intro o
  rw [X_step]
  simp only [exec]
  constructor
  · rintro ⟨n, h⟩
    cases hx : exec M.glob (call M n) n b st with
    | none => rw [hx] at h; cases h
    | some p => rw [hx] at h; rw [X_some.2 ⟨n, hx⟩]; exact h
  · intro h
    cases hx : X M b st with
    | none => rw [hx] at h; cases h
    | some p =>
      obtain ⟨n, hn⟩ := X_some.1 hx
      rw [hx] at h
      exact ⟨n, by rw [hn]; exact h⟩

theorem X_loop {b : SC} {st : St} : X M (.loop b) st = andThen M (.loop b) (X M b st) := by
  apply opt_ext
  intro o
  rw [X_step]
  simp only [exec]
  constructor
  · rintro ⟨n, h⟩
    cases hx : exec M.glob (call M n) n b st with
    | none => rw [hx] at h; cases h
    | some p =>
      rw [hx] at h
      rw [X_some.2 ⟨n, hx⟩]
      obtain ⟨e, st'⟩ := p
      cases e <;> first | exact X_some.2 ⟨n, h⟩ | exact h
  · intro h
    cases hx : X M b st with
    | none => rw [hx] at h; cases h
    | some p =>
      rw [hx] at h
      obtain ⟨n, hn⟩ := X_some.1 hx
      obtain ⟨e, st'⟩ := p
      cases e
      case norm =>
        obtain ⟨m, hm⟩ := X_some.1 h
        exact ⟨max n m, by rw [X_up hn (Nat.le_max_left n m)]; exact X_up hm (Nat.le_max_right n m)⟩
      all_goals exact ⟨n, by rw [hn]; exact h⟩

/-- A jump inside a scope. -/
noncomputable def jumpIn (M : Mach) (b : SC) : Option (Ex × St) → Option (Ex × St)
  | some (.goto l, st) => match findL b l with
    | some rest => X M (.scope b rest) st
    | none => some (.goto l, st)
  | r => r
theorem X_scope {b cur : SC} {st : St} : X M (.scope b cur) st = jumpIn M b (X M cur st) := by
  apply opt_ext
  intro o
  rw [X_step]
  simp only [exec]
  constructor
  · rintro ⟨n, h⟩
    cases hx : exec M.glob (call M n) n cur st with
    | none => rw [hx] at h; cases h
    | some p =>
      rw [hx] at h
      rw [X_some.2 ⟨n, hx⟩]
      obtain ⟨e, st'⟩ := p
      cases e <;> try exact h
      case goto l =>
        simp only [jumpIn] at h ⊢
        cases hf : findL b l with
        | none => rw [hf] at h; exact h
        | some rest => rw [hf] at h; exact X_some.2 ⟨n, h⟩
  · intro h
    cases hx : X M cur st with
    | none => rw [hx] at h; cases h
    | some p =>
      rw [hx] at h
      obtain ⟨n, hn⟩ := X_some.1 hx
      obtain ⟨e, st'⟩ := p
      cases e
      case goto l =>
        simp only [jumpIn] at h
        cases hf : findL b l with
        | none => rw [hf] at h; exact ⟨n, by rw [hn]; simp only [hf]; exact h⟩
        | some rest =>
          rw [hf] at h
          obtain ⟨m, hm⟩ := X_some.1 h
          exact ⟨max n m, by rw [X_up hn (Nat.le_max_left n m)]; simp only [hf]; exact X_up hm (Nat.le_max_right n m)⟩
      all_goals exact ⟨n, by rw [hn]; exact h⟩

theorem C_fn {f : Nat} {sf : SFunc} {args : List V} (hp : M.prim f = none) (hf : M.fn f = some sf) (ha : args.length = sf.np ∧ args.all okArg = true) :
    C M f args = (X M sf.body { env := initEnv 0 args, bx := [] }).bind (fin sf.res) := by
  apply opt_ext
  intro r
  rw [C_some]
  constructor
  · rintro ⟨n, h⟩
    cases n with
    | zero => simp [call] at h
    | succ n =>
      simp only [call, hp, hf, ha, and_self, if_true, Option.bind_eq_some_iff] at h
      obtain ⟨o, h1, h2⟩ := h
      rw [X_some.2 ⟨n, h1⟩]
      exact h2
  · intro h
    simp only [Option.bind_eq_some_iff] at h
    obtain ⟨o, h1, h2⟩ := h
    obtain ⟨n, hn⟩ := X_some.1 h1
    exact ⟨n + 1, by simp only [call, hp, hf, ha, and_self, if_true, hn]; exact h2⟩

theorem C_prim {f : Nat} {p : List D → Option V} {args : List V} (hp : M.prim f = some p) : C M f args = (asDs args).bind p := by
  apply opt_ext
  intro r
  rw [C_some]
  constructor
  · rintro ⟨n, h⟩
    cases n with
    | zero => simp [call] at h
    | succ n => simpa only [call, hp] using h
  · intro h
    exact ⟨1, by simpa only [call, hp] using h⟩

theorem C_sound {P : Program} {W0 : World} (hM : MachOK P W0 M) {f : Nat} {args : List V} {r : V} (h : C M f args = some r) : CallOK P M.glob W0 f args r := by
  obtain ⟨n, hn⟩ := C_some.1 h
  exact call_ok hM n f args r hn
end
end Go.Vi
