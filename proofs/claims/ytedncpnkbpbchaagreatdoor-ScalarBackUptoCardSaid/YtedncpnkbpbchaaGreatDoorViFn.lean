/-
  The verified interpreter: functions that are called.
-/
import Derived.Test.YtedncpnkbpbchaaGreatDoorViExec
set_option linter.unusedVariables false
set_option linter.unusedSimpArgs false
namespace Go.Vi
open Go.RowKit

def resOK (P : Program) : ResultVar → SRes → Bool
  | .tmp t, .slot s => t == s
  | .cell a t, .cell s n => a == s && shapeT P t n
  | _, _ => false
def ressOK (P : Program) : List ResultVar → List SRes → Bool
  | [], [] => true
  | x :: xs, y :: ys => resOK P x y && ressOK P xs ys
  | _, _ => false
def chkFunc (P : Program) (f : Nat) (sf : SFunc) : Bool :=
  match P.funcs[f]? with
  | some fn =>
    match fn.body with
    | some c => decide (sf.np ≤ fn.ntmps) && ressOK P fn.results.toList sf.res && chkCode P fn.ntmps c sf.body
    | none => false
  | none => false

/-- The functions are the program's, the others' answers are shown elsewhere. -/
structure MachOK (P : Program) (W0 : World) (M : Mach) : Prop where
  mixed : P.follows .mixedOrders = true
  fn : ∀ f sf, M.fn f = some sf → chkFunc P f sf = true
  prim : ∀ f p, M.prim f = some p → ∀ ds r, p ds = some r → ∀ vs, asDs vs = some ds → CallOK P M.glob W0 f vs r

section
variable {P : Program} {gl : Nat → Option D} {W0 w0 : World} {G0 : Gh} {N : Nat} {G : Gh} {Bf : Nat → Nat} {rs : RS} {a : Act} {w : World}

theorem lref_load (h : Sim gl W0 w0 G0 N G Bf rs a w) {n : Option Nat} {t : TypeId} (hsh : shapeT P t n = true) {s o' : Nat} {cs : List D} {d : D} (hb : rs.bx s = some cs) (hd : sub cs o' n = some d) :
    ∃ v, (loadVar t ⟨Bf s, o', none⟩).run P w = .ok v w ∧ RelD w G.E v d := by
  obtain ⟨hG, vs, T, hg, hs, hna, hr⟩ := h.bx s cs hb
  have hcell : ∀ k x, cs[k]? = some x → w.cell? ⟨Bf s, k, none⟩ = some (vs.getD k undef) ∧ RelD w G.E (vs.getD k undef) x := fun k x hk => by
    have := lt_of_get hk
    exact ⟨by simp [World.cell?, hg, hs, this], hr k x hk⟩
  cases n with
  | none =>
    simp only [sub] at hd
    have hn := hna d (List.mem_of_getElem? hd)
    refine run_load_cells hsh (by cases d <;> first | rfl | (simp [notAgg] at hn; done)) (fun k => vs.getD (o' + k) undef) (by rw [cells_of_notAgg hn]; simpa using hn) (fun k x hk => ?_)
    rw [cells_of_notAgg hn] at hk
    cases k with
    | zero => simp at hk; subst hk; exact hcell o' d hd
    | succ k => simp at hk
  | some m =>
    simp only [sub] at hd
    split at hd
    case isTrue hm =>
      cases hd
      refine run_load_cells hsh (by simp [whole]; omega) (fun k => vs.getD (o' + k) undef) (fun y hy => hna y (List.mem_of_mem_drop (List.mem_of_mem_take hy))) (fun k x hk => ?_)
      simp only [D.cells, List.getElem?_take, List.getElem?_drop] at hk
      split at hk
      · exact hcell _ _ hk
      · cases hk
    case isFalse => cases hd

/-- One result is read. -/
def readRes (tmps : Array Value) : ResultVar → Sem Value
  | .tmp t => pure (tmps.getD t undef)
  | .cell a t => do loadVar t (← asAddr (tmps.getD a undef))

theorem resD_sound {st : St} (h : Sim gl W0 w0 G0 N G Bf st.toRS a w) {x : ResultVar} {y : SRes} {d : D} (ho : resOK P x y = true) (hd : resD st y = some d) :
    ∃ v, (readRes a.tmps x).run P w = .ok v w ∧ RelD w G.E v d := by
  cases x <;> cases y <;> simp only [resOK, Bool.false_eq_true] at ho
  case tmp.slot t s =>
    simp only [beq_iff_eq] at ho; subst ho
    simp only [resD, Option.bind_eq_some_iff] at hd
    obtain ⟨v, h1, h2⟩ := hd
    exact ⟨_, rfl, (h.env t v h1).read h2⟩
  case cell.cell b t s n =>
    simp only [Bool.and_eq_true, beq_iff_eq] at ho
    obtain ⟨rfl, hsh⟩ := ho
    simp only [resD] at hd
    split at hd
    case h_1 s' o he =>
      simp only [Option.bind_eq_some_iff] at hd
      obtain ⟨cs, hb, hsub⟩ := hd
      have hv := h.env b _ he
      obtain ⟨v, hr, hrel⟩ := lref_load h hsh hb hsub
      refine ⟨v, ?_, hrel⟩
      simp only [SimV] at hv
      simp [readRes, hv, asAddr, hr]
    case h_2 => cases hd

theorem resDs_sound {st : St} (h : Sim gl W0 w0 G0 N G Bf st.toRS a w) : ∀ {xs : List ResultVar} {ys : List SRes} {ds : List D}, ressOK P xs ys = true → resDs st ys = some ds →
    ∃ vs : List Value, (xs.mapM (readRes a.tmps)).run P w = .ok vs w ∧ vs.length = ds.length ∧ ds.length = ys.length ∧ xs.length = ys.length ∧ ∀ (k : Nat) d, ds[k]? = some d → RelD w G.E (vs.toArray.getD k undef) d
  | [], [], ds, _, hd => by
    simp [resDs] at hd; subst hd
    exact ⟨[], by simp, rfl, rfl, rfl, by simp⟩
  | [], _ :: _, _, ho, _ => by simp [ressOK] at ho
  | _ :: _, [], _, ho, _ => by simp [ressOK] at ho
  | x :: xs, y :: ys, ds, ho, hd => by
    simp only [ressOK, Bool.and_eq_true] at ho
    simp only [resDs, Option.bind_eq_some_iff, Option.some.injEq] at hd
    obtain ⟨d, h1, ds', h2, rfl⟩ := hd
    obtain ⟨v, r1, r2⟩ := resD_sound h ho.1 h1
    obtain ⟨vs, s1, s2, s3, s5, s4⟩ := resDs_sound h ho.2 h2
    refine ⟨v :: vs, by simp [List.mapM_cons, r1, s1], by simp [s2], by simp [s3], by simp [s5], fun k e hk => ?_⟩
    cases k with
    | zero => simp at hk; subst hk; simpa using r2
    | succ k =>
      have := s4 k e (by simpa using hk)
      simpa using this

theorem results_eq (fn : Func) (tmps : Array Value) : Go.results fn tmps = (do let vs ← fn.results.toList.mapM (readRes tmps); pure (if h : vs.toArray.size = 1 then vs.toArray[0] else .tuple vs.toArray)) := by
  have : Go.results fn tmps = (do let vs ← fn.results.mapM (readRes tmps); pure (if h : vs.size = 1 then vs[0] else .tuple vs)) := rfl
  rw [this, Array.mapM_eq_mapM_toList]
  simp

theorem results_sound {st : St} (h : Sim gl W0 w0 G0 N G Bf st.toRS a w) (hn : ∀ b, b < w0.heap.size → ∀ k, G0 b ≠ .box k) {fn : Func} {ys : List SRes} {r : V} (ho : ressOK P fn.results.toList ys = true) (hr : Vi.results st ys = some r) :
    ∃ v G', (Go.results fn a.tmps).run P w = .ok v w ∧ okRes r = true ∧ SimV w G' (fun _ => 0) 0 v r ∧ Keep w0 G0 w G' ∧ Base gl W0 G' w := by
  have one : ∀ x y d, fn.results.toList = [x] → resOK P x y = true → resD st y = some d → ∃ v, (Go.results fn a.tmps).run P w = .ok v w ∧ RelD w G.E v d := by
    intro x y d hx hxy hd
    obtain ⟨v, h1, h2⟩ := resD_sound h hxy hd
    exact ⟨v, by rw [results_eq, hx]; simp [h1], h2⟩
  unfold Vi.results at hr
  split at hr
  case h_1 s =>
    obtain ⟨x, hx⟩ : ∃ x, fn.results.toList = [x] := by
      rcases hq : fn.results.toList with _ | ⟨x, _ | ⟨y, l⟩⟩ <;> rw [hq] at ho <;> simp [ressOK] at ho
      exact ⟨x, rfl⟩
    rw [hx] at ho
    simp only [ressOK, Bool.and_true] at ho
    split at hr
    case h_1 d he =>
      cases hr
      obtain ⟨v, h1, h2⟩ := one x _ d hx ho (by simp [resD, he, V.read])
      exact ⟨v, G, h1, rfl, h2, h.keep, h.base⟩
    case h_2 sz xs he =>
      cases hr
      have hown := h.env s _ he
      obtain ⟨G', K, g1, g2, g3⟩ := OwnRel.move (k := 0) h.base.fresh hown
      cases x <;> simp only [resOK, Bool.false_eq_true, beq_iff_eq] at ho
      subst ho
      exact ⟨_, G', by rw [results_eq, hx]; simp [readRes], rfl, g1, g2.keep h.keep hn, h.base.evo g2⟩
    case h_3 => cases hr
  case h_2 y hne =>
    obtain ⟨x, hx⟩ : ∃ x, fn.results.toList = [x] := by
      rcases hq : fn.results.toList with _ | ⟨x, _ | ⟨y, l⟩⟩ <;> rw [hq] at ho <;> simp [ressOK] at ho
      exact ⟨x, rfl⟩
    rw [hx] at ho
    simp only [ressOK, Bool.and_true] at ho
    simp only [Option.map_eq_some_iff] at hr
    obtain ⟨d, hd, rfl⟩ := hr
    obtain ⟨v, h1, h2⟩ := one x _ d hx ho hd
    exact ⟨v, G, h1, rfl, h2, h.keep, h.base⟩
  case h_3 hne1 hne2 =>
    simp only [Option.map_eq_some_iff] at hr
    obtain ⟨ds, hd, rfl⟩ := hr
    obtain ⟨vs, h1, h2, h3, h5, h4⟩ := resDs_sound h ho hd
    refine ⟨.tuple vs.toArray, G, ?_, rfl, ⟨vs.toArray, rfl, by simpa using h2, h4⟩, h.keep, h.base⟩
    have : vs.length ≠ 1 := fun hh => by
      rcases ys with _ | ⟨y, _ | ⟨z, l⟩⟩
      · simp only [List.length_nil] at h3; omega
      · exact hne2 y rfl
      · simp only [List.length_cons] at h3; omega
    rw [results_eq]
    simp [h1, this]

theorem get_initEnv : ∀ {vs : List V} {i s : Nat} {v : V}, get (initEnv i vs) s = some v → i ≤ s ∧ vs[s - i]? = some v
  | [], i, s, v, h => by simp [initEnv, get] at h
  | u :: vs, i, s, v, h => by
    simp only [initEnv, get] at h
    split at h
    case isTrue hs => subst hs; cases h; simp
    case isFalse hs =>
      obtain ⟨h1, h2⟩ := get_initEnv h
      refine ⟨by omega, ?_⟩
      have : s - i = (s - (i + 1)) + 1 := by omega
      rw [this]
      simpa using h2

/-- What the run over data answers, the model answers. -/
theorem call_ok {M : Mach} (hM : MachOK P W0 M) : ∀ (n f : Nat) (args : List V) (r : V), call M n f args = some r → CallOK P M.glob W0 f args r
  | 0, f, args, r, h => by simp [call] at h
  | n + 1, f, args, r, h => by
    simp only [call] at h
    split at h
    case h_1 p hp =>
      simp only [Option.bind_eq_some_iff] at h
      obtain ⟨ds, h1, h2⟩ := h
      exact hM.prim f p hp ds r h2 args h1
    case h_2 hp =>
      split at h
      case h_2 => cases h
      case h_1 sf hsf =>
        split at h
        case isFalse => cases h
        case isTrue hargs =>
          have hchk := hM.fn f sf hsf
          simp only [Option.bind_eq_some_iff] at h
          obtain ⟨⟨e, st'⟩, hex, hfin⟩ := h
          unfold chkFunc at hchk
          split at hchk
          case h_2 => cases hchk
          case h_1 fn hfn =>
            split at hchk
            case h_2 => cases hchk
            case h_1 c hbody =>
              simp only [Bool.and_eq_true, decide_eq_true_eq] at hchk
              obtain ⟨⟨hnp, hres⟩, hcode⟩ := hchk
              intro w G vals hvs hbase hnb hval
              refine calls_of_wp hfn hbody ?_
              have hsim : Sim M.glob W0 w G fn.ntmps G (fun _ => 0) (St.toRS { env := initEnv 0 args, bx := [] }) { tmps := vals ++ Array.replicate (fn.ntmps - vals.size) undef, defers := [] } w := by
                refine ⟨by simp; omega, rfl, fun s v hv => ?_, fun s cs hc => by simp [St.toRS, get] at hc, fun s s' o hs => ?_, hbase, Keep.refl w G⟩
                · obtain ⟨_, h2⟩ := get_initEnv hv
                  simp only [Nat.sub_zero] at h2
                  have hlt := lt_of_get h2
                  have h3 := (hval s v h2).2
                  have : (vals ++ Array.replicate (fn.ntmps - vals.size) undef).getD s undef = vals.getD s undef := by
                    simp only [Array.getD_eq_getD_getElem?]
                    rw [Array.getElem?_append_left (by omega)]
                  rw [this]; exact h3
                · obtain ⟨_, h2⟩ := get_initEnv hs
                  have := (hval _ _ h2).1
                  simp [okArg] at this
              refine (good hM.mixed hnb (fun f vs r hr => call_ok hM n f vs r hr) n).code hcode hsim hex fun G' Bf' a' w' hs' => ?_
              have hfinish : Vi.results st' sf.res = some r → a'.defers = [] ∧ ∃ v, (Go.results fn a'.tmps).run P w' = .ok v w' ∧ ∃ v1 G1, Ending.returned v = .returned v1 ∧ okRes r = true ∧ SimV w' G1 (fun _ => 0) 0 v1 r ∧ Keep w G w' G1 ∧ Base M.glob W0 G1 w' := fun hr => by
                obtain ⟨v, G1, g1, g2, g3, g4, g5⟩ := results_sound hs' hnb hres hr
                exact ⟨hs'.defers, v, g1, v, G1, rfl, g2, g3, g4, g5⟩
              cases e with
              | norm => exact hfinish hfin
              | ret => exact hfinish hfin
              | exit id => simp [fin] at hfin
              | goto l => simp [fin] at hfin
end
end Go.Vi
