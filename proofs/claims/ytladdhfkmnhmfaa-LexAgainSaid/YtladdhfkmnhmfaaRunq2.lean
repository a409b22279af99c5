/-
  What the reference's Unquote answers: over data.
-/
import Derived.Test.YtladdhfkmnhmfaaRunq
set_option linter.unusedVariables false
set_option linter.unusedSimpArgs false
set_option maxRecDepth 100000
set_option maxHeartbeats 8000000
namespace Go.Proofs.Ytladdhfkmnhmfaa
open Go.Vi
variable {m : Int}

def v_end (t out : List UInt8) (e : Nat) : St := { env := [(0, .d (.str t)), (4, .own 1 (bytesD out)), (5, .d (.int .i64 e)), (6, .d (.int .i64 e)), (29, .d (.bool false))], bx := [] }
def v_out (t out : List UInt8) (e : Nat) : Option (List UInt8) → Option (Ex × St)
  | none => v_fail
  | some bs => some (.exit 0, v_end t (out ++ bs) e)

theorem v_loop (t s : List UInt8) (e : Nat) (ht : t.length ≤ 140737488355327) (hte : s = t.take e) (he : e ≤ t.length) (hsl : s.length = e) : ∀ (n i : Nat) (out : List UInt8), e - i ≤ n → i ≤ e → out.length ≤ i → X (M m) (.loop l_ref2_Unquote_1) (v_inv t out e i) = v_out t out e (unqF n (s.drop i)) := by
  have last : ∀ out, X (M m) (.loop l_ref2_Unquote_1) (v_inv t out e e) = some (.exit 0, v_end t out e) := fun out => by
    refine loop_exit ?_ (by simp)
    have h1 : ¬ ((e : Int) < e) := by omega
    simp -implicitDefEqProofs (maxSteps := 1000000) (disch := omega) only [↓Int.reduceLT, ↓Int.reduceLE, ↓Int.reduceEq, ↓Nat.reduceEqDiff, Nat.reduceBEq, ↓reduceIte, St.toRS, restrict, initEnv, plainArgs, reduceCtorEq, Nat.reduceEqDiff, Nat.reduceAdd, Nat.reduceMul, Int.reduceLT, Int.reduceLE, Int.reduceEq, Int.reduceNeg, Int.reduceAdd, Int.reduceToNat, Int.reduceNe, Nat.reduceSub, Int.reducePow, Int.reduceMul, vb0, vb1, vb2, vb3, vb4, vb5, vb6, vb7, l_ref2_Unquote_1, v_inv, v_end, h1]
  have hnil : s.drop e = [] := by rw [← hsl, List.drop_length]
  intro n
  induction n with
  | zero =>
    intro i out h1 h2 h3
    obtain rfl : i = e := by omega
    rw [last, hnil]
    simp [unqF, v_out]
  | succ n ih =>
    intro i out h1 h2 h3
    by_cases hi : i < s.length
    · have hdrop : s.drop i = s[i] :: s.drop (i + 1) := List.drop_eq_getElem_cons hi
      have hr := v_round (m := m) t s out e i ht hte he hsl (by omega) hi
      rw [X_loop, hr]
      cases hq : uqStep (s.drop i) with
      | none =>
        rw [hdrop] at hq ⊢
        simp only [unqF, hq, v_out, v_fail, andThen]
      | some p =>
        obtain ⟨b, k⟩ := p
        have hk := uqStep_len hq
        simp only [List.length_drop] at hk
        simp only [andThen]
        rw [ih (i + k) (out ++ [b]) (by omega) (by omega) (by simp; omega)]
        rw [hdrop] at hq
        rw [hdrop]
        simp only [unqF, hq]
        rw [← hdrop, List.drop_drop]
        cases unqF n (s.drop (i + k)) with
        | none => rfl
        | some bs => simp only [v_out, Option.map_some, List.append_assoc, List.singleton_append]
    · obtain rfl : i = e := by omega
      rw [last, hnil]
      simp [unqF, v_out]

/-- What the reference's Unquote answers: the bytes, whether it is one. -/
def runquoteL (t : List UInt8) : List UInt8 × Bool :=
  if t.length < 2 ∨ t[0]? ≠ some 34 ∨ t[t.length - 1]? ≠ some 34 then ([], false)
  else match unq ((t.take (t.length - 1)).drop 1) with
    | none => ([], false)
    | some bs => (bs, true)

theorem runquote_spec (t : List UInt8) (ht : t.length ≤ 140737488355327) : C (M m) n_ref2_Unquote [.d (.str t)] = some (.tup [.slice 1 (bytesD (runquoteL t).1), .bool (runquoteL t).2]) := by
  rw [c_fn (sf := f_ref2_Unquote) rfl rfl ⟨rfl, rfl⟩]
  by_cases h2 : t.length < 2
  · have f2 : (t.length : Int) < 2 := by omega
    have e : runquoteL t = ([], false) := by simp [runquoteL, h2]
    simp -implicitDefEqProofs (maxSteps := 1000000) (disch := omega) only [↓Int.reduceLT, ↓Int.reduceLE, ↓Int.reduceEq, ↓Nat.reduceEqDiff, Nat.reduceBEq, ↓reduceIte, St.toRS, restrict, initEnv, plainArgs, reduceCtorEq, Nat.reduceEqDiff, Nat.reduceAdd, Nat.reduceMul, Int.reduceLT, Int.reduceLE, Int.reduceEq, Int.reduceNeg, Int.reduceAdd, Int.reduceToNat, Int.reduceNe, Nat.reduceSub, Int.reducePow, Int.reduceMul, vb0, vb1, vb2, vb3, vb4, vb5, vb6, vb7, f_ref2_Unquote, f2, e, bytesD_nil]
  have f2 : ¬ (t.length : Int) < 2 := by omega
  have hg0 : t[0]? = some (t[0]'(by omega)) := by simp
  have hgl : t[t.length - 1]? = some (t[t.length - 1]'(by omega)) := by simp
  have w1 : IntKind.i64.wrap ((t.length : Int) - 1) = ((t.length - 1 : Nat) : Int) := by rw [wrap_i64 (by omega) (by omega)]; omega
  by_cases q0 : (t[0]'(by omega)).toNat = 34
  · have f3 : (((t[0]'(by omega)).toNat : Int) = 34) := by omega
    by_cases ql : (t[t.length - 1]'(by omega)).toNat = 34
    · have f4 : (((t[t.length - 1]'(by omega)).toNat : Int) = 34) := by omega
      have e0 : t[0]'(by omega) = 34 := by rw [show (34 : UInt8) = UInt8.ofNat 34 from rfl, u8_eq _ _ (by omega)]; exact q0
      have el : t[t.length - 1]'(by omega) = 34 := by rw [show (34 : UInt8) = UInt8.ofNat 34 from rfl, u8_eq _ _ (by omega)]; exact ql
      have e : runquoteL t = match unq ((t.take (t.length - 1)).drop 1) with | none => ([], false) | some bs => (bs, true) := by
        simp only [runquoteL, h2, hg0, hgl, e0, el, if_false, ne_eq, not_true_eq_false, or_self]
      have hl := v_loop (m := m) t (t.take (t.length - 1)) (t.length - 1) ht rfl (by omega) (by simp) ((t.take (t.length - 1)).drop 1).length 1 [] (by simp <;> omega) (by omega) (by simp)
      simp only [v_inv, bytesD_nil] at hl
      have hl' : X (M m) (.loop l_ref2_Unquote_1) { env := [(0, .d (.str t)), (4, .own 1 []), (5, .d (.int .i64 ((t.length - 1 : Nat) : Int))), (6, .d (.int .i64 1))], bx := [] } = v_out t [] (t.length - 1) (unq ((t.take (t.length - 1)).drop 1)) := hl
      cases hu : unq ((t.take (t.length - 1)).drop 1) with
      | none =>
        rw [hu] at hl' e
        simp only [v_out] at hl'
        simp -implicitDefEqProofs (maxSteps := 1000000) (disch := omega) only [↓Int.reduceLT, ↓Int.reduceLE, ↓Int.reduceEq, ↓Nat.reduceEqDiff, Nat.reduceBEq, ↓reduceIte, St.toRS, restrict, initEnv, plainArgs, reduceCtorEq, Nat.reduceEqDiff, Nat.reduceAdd, Nat.reduceMul, Int.reduceLT, Int.reduceLE, Int.reduceEq, Int.reduceNeg, Int.reduceAdd, Int.reduceToNat, Int.reduceNe, Nat.reduceSub, Int.reducePow, Int.reduceMul, vb0, vb1, vb2, vb3, vb4, vb5, vb6, vb7, f_ref2_Unquote, f2, hg0, f3, w1, hgl, f4, hl', v_fail, e, bytesD_nil]
      | some bs =>
        rw [hu] at hl' e
        simp only [v_out, List.nil_append, v_end] at hl'
        simp -implicitDefEqProofs (maxSteps := 1000000) (disch := omega) only [↓Int.reduceLT, ↓Int.reduceLE, ↓Int.reduceEq, ↓Nat.reduceEqDiff, Nat.reduceBEq, ↓reduceIte, St.toRS, restrict, initEnv, plainArgs, reduceCtorEq, Nat.reduceEqDiff, Nat.reduceAdd, Nat.reduceMul, Int.reduceLT, Int.reduceLE, Int.reduceEq, Int.reduceNeg, Int.reduceAdd, Int.reduceToNat, Int.reduceNe, Nat.reduceSub, Int.reducePow, Int.reduceMul, vb0, vb1, vb2, vb3, vb4, vb5, vb6, vb7, f_ref2_Unquote, f2, hg0, f3, w1, hgl, f4, hl', e]
    · have f4 : ¬ (((t[t.length - 1]'(by omega)).toNat : Int) = 34) := by omega
      have el : t[t.length - 1]'(by omega) ≠ 34 := by
        intro h; apply ql; rw [h]; rfl
      have e : runquoteL t = ([], false) := by simp [runquoteL, h2, hgl, el]
      simp -implicitDefEqProofs (maxSteps := 1000000) (disch := omega) only [↓Int.reduceLT, ↓Int.reduceLE, ↓Int.reduceEq, ↓Nat.reduceEqDiff, Nat.reduceBEq, ↓reduceIte, St.toRS, restrict, initEnv, plainArgs, reduceCtorEq, Nat.reduceEqDiff, Nat.reduceAdd, Nat.reduceMul, Int.reduceLT, Int.reduceLE, Int.reduceEq, Int.reduceNeg, Int.reduceAdd, Int.reduceToNat, Int.reduceNe, Nat.reduceSub, Int.reducePow, Int.reduceMul, vb0, vb1, vb2, vb3, vb4, vb5, vb6, vb7, f_ref2_Unquote, f2, hg0, f3, w1, hgl, f4, e, bytesD_nil]
  · have f3 : ¬ (((t[0]'(by omega)).toNat : Int) = 34) := by omega
    have e0 : t[0]'(by omega) ≠ 34 := by
      intro h; apply q0; rw [h]; rfl
    have e : runquoteL t = ([], false) := by simp [runquoteL, h2, hg0, e0]
    simp -implicitDefEqProofs (maxSteps := 1000000) (disch := omega) only [↓Int.reduceLT, ↓Int.reduceLE, ↓Int.reduceEq, ↓Nat.reduceEqDiff, Nat.reduceBEq, ↓reduceIte, St.toRS, restrict, initEnv, plainArgs, reduceCtorEq, Nat.reduceEqDiff, Nat.reduceAdd, Nat.reduceMul, Int.reduceLT, Int.reduceLE, Int.reduceEq, Int.reduceNeg, Int.reduceAdd, Int.reduceToNat, Int.reduceNe, Nat.reduceSub, Int.reducePow, Int.reduceMul, vb0, vb1, vb2, vb3, vb4, vb5, vb6, vb7, f_ref2_Unquote, f2, hg0, f3, w1, e, bytesD_nil]
end Go.Proofs.Ytladdhfkmnhmfaa
