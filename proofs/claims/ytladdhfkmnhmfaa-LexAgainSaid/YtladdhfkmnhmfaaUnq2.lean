/-
  What quote.Unquote answers: over data.
-/
import Derived.Test.YtladdhfkmnhmfaaUnq
set_option linter.unusedVariables false
set_option linter.unusedSimpArgs false
set_option maxRecDepth 100000
set_option maxHeartbeats 8000000
namespace Go.Proofs.Ytladdhfkmnhmfaa
open Go.Vi
variable {m : Int}

def u_end (s out : List UInt8) : St := { env := [(0, .d (.str s)), (4, .own 1 (bytesD out)), (5, .d (.int .i64 s.length)), (37, .d (.bool false))], bx := [] }
def u_out (s out : List UInt8) : Option (List UInt8) → Option (Ex × St)
  | none => u_fail
  | some bs => some (.exit 0, u_end s (out ++ bs))

theorem u_loop (s : List UInt8) (hs : s.length ≤ 65536) : ∀ (n i : Nat) (out : List UInt8), s.length - i ≤ n → i ≤ s.length → out.length ≤ i → X (M m) (.loop l_quote_Unquote_1) (u_inv s out i) = u_out s out (unqF n (s.drop i)) := by
  have last : ∀ out, X (M m) (.loop l_quote_Unquote_1) (u_inv s out s.length) = some (.exit 0, u_end s out) := fun out => by
    refine loop_exit ?_ (by simp)
    have h1 : ¬ ((s.length : Int) < s.length) := by omega
    simp -implicitDefEqProofs (maxSteps := 1000000) (disch := omega) only [↓Int.reduceLT, ↓Int.reduceLE, ↓Int.reduceEq, ↓Nat.reduceEqDiff, Nat.reduceBEq, ↓reduceIte, St.toRS, restrict, initEnv, plainArgs, reduceCtorEq, Nat.reduceEqDiff, Nat.reduceAdd, Nat.reduceMul, Int.reduceLT, Int.reduceLE, Int.reduceEq, Int.reduceNeg, Int.reduceAdd, Int.reduceToNat, Int.reduceNe, Nat.reduceSub, Int.reducePow, Int.reduceMul, vb0, vb1, vb2, vb3, vb4, vb5, vb6, vb7, l_quote_Unquote_1, u_inv, u_end, h1]
  intro n
  induction n with
  | zero =>
    intro i out h1 h2 h3
    obtain rfl : i = s.length := by omega
    rw [last, List.drop_length]
    simp [unqF, u_out]
  | succ n ih =>
    intro i out h1 h2 h3
    by_cases hi : i < s.length
    · have hdrop : s.drop i = s[i] :: s.drop (i + 1) := List.drop_eq_getElem_cons hi
      have hr := u_round (m := m) s out i hs (by omega) hi
      rw [X_loop, hr]
      cases hq : uqStep (s.drop i) with
      | none =>
        rw [hdrop] at hq ⊢
        simp only [unqF, hq, u_out, u_fail, andThen]
      | some p =>
        obtain ⟨b, k⟩ := p
        have hk := uqStep_len hq
        simp only [List.length_drop] at hk
        simp only [andThen]
        rw [ih (i + k) (out ++ [b]) (by omega) (by omega) (by simp; omega)]
        rw [hdrop] at hq
        rw [hdrop]
        simp only [unqF, hq]
        rw [← hdrop, List.drop_drop]
        cases unqF n (s.drop (i + k)) with
        | none => rfl
        | some bs => simp only [u_out, Option.map_some, List.append_assoc, List.singleton_append]
    · obtain rfl : i = s.length := by omega
      rw [last, List.drop_length]
      simp [unqF, u_out]

/-- What Unquote answers: the bytes, the error. -/
def unquoteL (t : List UInt8) : List UInt8 × Int :=
  if 65536 < t.length then ([], 1)
  else if t.length < 2 ∨ t[0]? ≠ some 34 ∨ t[t.length - 1]? ≠ some 34 then ([], 11)
  else match unq ((t.take (t.length - 1)).drop 1) with
    | none => ([], 11)
    | some bs => (bs, 0)

theorem u8_eq (c : UInt8) (n : Nat) (hn : n < 256) : c = UInt8.ofNat n ↔ c.toNat = n := by
  constructor
  · rintro rfl; exact toNat_ofNatU n hn
  · intro h; rw [← h]; simp

theorem unqF_le : ∀ (n : Nat) (s bs : List UInt8), unqF n s = some bs → bs.length ≤ s.length
  | n, [], bs, h => by
    cases n <;> (simp [unqF] at h; subst h; simp)
  | 0, c :: r, bs, h => by simp [unqF] at h
  | n + 1, c :: r, bs, h => by
    simp only [unqF] at h
    cases hs : uqStep (c :: r) with
    | none => rw [hs] at h; cases h
    | some p =>
      obtain ⟨b, k⟩ := p
      rw [hs] at h
      simp only [Option.map_eq_some_iff] at h
      obtain ⟨x, hx, rfl⟩ := h
      have := unqF_le n _ x hx
      have := uqStep_len hs
      simp only [List.length_drop, List.length_cons] at *
      omega

theorem unquote_spec (t : List UInt8) (ht : t.length ≤ 140737488355328) : C (M m) n_quote_Unquote [.d (.str t)] = some (.tup [.slice 1 (bytesD (unquoteL t).1), .int .i64 (unquoteL t).2]) := by
  rw [c_fn (sf := f_quote_Unquote) rfl rfl ⟨rfl, rfl⟩]
  by_cases hbig : 65536 < t.length
  · have f1 : (65536 : Int) < t.length := by omega
    have e : unquoteL t = ([], 1) := by simp [unquoteL, hbig]
    simp -implicitDefEqProofs (maxSteps := 1000000) (disch := omega) only [↓Int.reduceLT, ↓Int.reduceLE, ↓Int.reduceEq, ↓Nat.reduceEqDiff, Nat.reduceBEq, ↓reduceIte, St.toRS, restrict, initEnv, plainArgs, reduceCtorEq, Nat.reduceEqDiff, Nat.reduceAdd, Nat.reduceMul, Int.reduceLT, Int.reduceLE, Int.reduceEq, Int.reduceNeg, Int.reduceAdd, Int.reduceToNat, Int.reduceNe, Nat.reduceSub, Int.reducePow, Int.reduceMul, vb0, vb1, vb2, vb3, vb4, vb5, vb6, vb7, f_quote_Unquote, f1, e, bytesD_nil]
  have f1 : ¬ (65536 : Int) < t.length := by omega
  by_cases h2 : t.length < 2
  · have f2 : (t.length : Int) < 2 := by omega
    have e : unquoteL t = ([], 11) := by simp [unquoteL, hbig, h2]
    simp -implicitDefEqProofs (maxSteps := 1000000) (disch := omega) only [↓Int.reduceLT, ↓Int.reduceLE, ↓Int.reduceEq, ↓Nat.reduceEqDiff, Nat.reduceBEq, ↓reduceIte, St.toRS, restrict, initEnv, plainArgs, reduceCtorEq, Nat.reduceEqDiff, Nat.reduceAdd, Nat.reduceMul, Int.reduceLT, Int.reduceLE, Int.reduceEq, Int.reduceNeg, Int.reduceAdd, Int.reduceToNat, Int.reduceNe, Nat.reduceSub, Int.reducePow, Int.reduceMul, vb0, vb1, vb2, vb3, vb4, vb5, vb6, vb7, f_quote_Unquote, f1, f2, e, bytesD_nil]
  have f2 : ¬ (t.length : Int) < 2 := by omega
  have hg0 : t[0]? = some (t[0]'(by omega)) := by simp
  have hgl : t[t.length - 1]? = some (t[t.length - 1]'(by omega)) := by simp
  have w1 : IntKind.i64.wrap ((t.length : Int) - 1) = ((t.length - 1 : Nat) : Int) := by rw [wrap_i64 (by omega) (by omega)]; omega
  by_cases q0 : (t[0]'(by omega)).toNat = 34
  · have f3 : (((t[0]'(by omega)).toNat : Int) = 34) := by omega
    by_cases ql : (t[t.length - 1]'(by omega)).toNat = 34
    · have f4 : (((t[t.length - 1]'(by omega)).toNat : Int) = 34) := by omega
      have e0 : t[0]'(by omega) = 34 := by rw [show (34 : UInt8) = UInt8.ofNat 34 from rfl, u8_eq _ _ (by omega)]; exact q0
      have el : t[t.length - 1]'(by omega) = 34 := by rw [show (34 : UInt8) = UInt8.ofNat 34 from rfl, u8_eq _ _ (by omega)]; exact ql
      have e : unquoteL t = match unq ((t.take (t.length - 1)).drop 1) with | none => ([], 11) | some bs => (bs, 0) := by
        simp only [unquoteL, hbig, h2, hg0, hgl, e0, el, if_false, ne_eq, not_true_eq_false, or_self]
      have g1 : 1 ≤ t.length - 1 ∧ t.length - 1 ≤ t.length := by omega
      generalize hs : (t.take (t.length - 1)).drop 1 = s at e
      have hsl : s.length = t.length - 2 := by rw [← hs]; simp; omega
      have hl := u_loop (m := m) s (by omega) s.length 0 [] (by omega) (by omega) (by simp)
      simp only [u_inv, bytesD_nil, List.drop_zero] at hl
      have a0 : (0 : Int) ≤ (s.length : Int) := by omega
      have a2 : ((1 : Nat) : Int) * (s.length : Int) ≤ 281474976710656 := by omega
      have a3 : (s.length : Int) ≤ 9223372036854775807 := by omega
      have hl' : X (M m) (.loop l_quote_Unquote_1) { env := [(0, .d (.str s)), (4, .own 1 []), (5, .d (.int .i64 0))], bx := [] } = u_out s [] (unq s) := hl
      cases hu : unq s with
      | none =>
        rw [hu] at hl' e
        simp only [u_out] at hl'
        simp -implicitDefEqProofs (maxSteps := 1000000) (disch := omega) only [↓Int.reduceLT, ↓Int.reduceLE, ↓Int.reduceEq, ↓Nat.reduceEqDiff, Nat.reduceBEq, ↓reduceIte, St.toRS, restrict, initEnv, plainArgs, reduceCtorEq, Nat.reduceEqDiff, Nat.reduceAdd, Nat.reduceMul, Int.reduceLT, Int.reduceLE, Int.reduceEq, Int.reduceNeg, Int.reduceAdd, Int.reduceToNat, Int.reduceNe, Nat.reduceSub, Int.reducePow, Int.reduceMul, vb0, vb1, vb2, vb3, vb4, vb5, vb6, vb7, f_quote_Unquote, f1, f2, hg0, f3, w1, hgl, f4, g1, hs, a0, a2, a3, hl', u_fail, e, bytesD_nil]
      | some bs =>
        rw [hu] at hl' e
        have hbl := unqF_le _ _ _ hu
        simp only [u_out, List.nil_append, u_end] at hl'
        have a4 : (0 : Int) ≤ (bs.length : Int) := by omega
        have a5 : ((1 : Nat) : Int) * (bs.length : Int) ≤ 281474976710656 := by omega
        have a6 : (bs.length : Int) ≤ 9223372036854775807 := by omega
        have a7 : bs.length ≤ 140737488355328 := by omega
        simp -implicitDefEqProofs (maxSteps := 1000000) (disch := omega) only [↓Int.reduceLT, ↓Int.reduceLE, ↓Int.reduceEq, ↓Nat.reduceEqDiff, Nat.reduceBEq, ↓reduceIte, St.toRS, restrict, initEnv, plainArgs, reduceCtorEq, Nat.reduceEqDiff, Nat.reduceAdd, Nat.reduceMul, Int.reduceLT, Int.reduceLE, Int.reduceEq, Int.reduceNeg, Int.reduceAdd, Int.reduceToNat, Int.reduceNe, Nat.reduceSub, Int.reducePow, Int.reduceMul, vb0, vb1, vb2, vb3, vb4, vb5, vb6, vb7, f_quote_Unquote, f1, f2, hg0, f3, w1, hgl, f4, g1, hs, a0, a2, a3, hl', e, bytesD_length, a4, a5, a6, a7]
    · have f4 : ¬ (((t[t.length - 1]'(by omega)).toNat : Int) = 34) := by omega
      have el : t[t.length - 1]'(by omega) ≠ 34 := by
        intro h; apply ql; rw [h]; rfl
      have e : unquoteL t = ([], 11) := by simp [unquoteL, hbig, h2, hgl, el]
      simp -implicitDefEqProofs (maxSteps := 1000000) (disch := omega) only [↓Int.reduceLT, ↓Int.reduceLE, ↓Int.reduceEq, ↓Nat.reduceEqDiff, Nat.reduceBEq, ↓reduceIte, St.toRS, restrict, initEnv, plainArgs, reduceCtorEq, Nat.reduceEqDiff, Nat.reduceAdd, Nat.reduceMul, Int.reduceLT, Int.reduceLE, Int.reduceEq, Int.reduceNeg, Int.reduceAdd, Int.reduceToNat, Int.reduceNe, Nat.reduceSub, Int.reducePow, Int.reduceMul, vb0, vb1, vb2, vb3, vb4, vb5, vb6, vb7, f_quote_Unquote, f1, f2, hg0, f3, w1, hgl, f4, e, bytesD_nil]
  · have f3 : ¬ (((t[0]'(by omega)).toNat : Int) = 34) := by omega
    have e0 : t[0]'(by omega) ≠ 34 := by
      intro h; apply q0; rw [h]; rfl
    have e : unquoteL t = ([], 11) := by simp [unquoteL, hbig, h2, hg0, e0]
    simp -implicitDefEqProofs (maxSteps := 1000000) (disch := omega) only [↓Int.reduceLT, ↓Int.reduceLE, ↓Int.reduceEq, ↓Nat.reduceEqDiff, Nat.reduceBEq, ↓reduceIte, St.toRS, restrict, initEnv, plainArgs, reduceCtorEq, Nat.reduceEqDiff, Nat.reduceAdd, Nat.reduceMul, Int.reduceLT, Int.reduceLE, Int.reduceEq, Int.reduceNeg, Int.reduceAdd, Int.reduceToNat, Int.reduceNe, Nat.reduceSub, Int.reducePow, Int.reduceMul, vb0, vb1, vb2, vb3, vb4, vb5, vb6, vb7, f_quote_Unquote, f1, f2, hg0, f3, w1, e, bytesD_nil]
end Go.Proofs.Ytladdhfkmnhmfaa
