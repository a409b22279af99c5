/-
  Numbers as digits by base 128: what the program and the reference put, over data.
-/
import Derived.Test.YtedncpnkbpbchaaDoorAwake
import Derived.Test.YtedncpnkbpbchaaDoorViOwn
set_option linter.unusedVariables false
set_option linter.unusedSimpArgs false
set_option maxRecDepth 100000
set_option maxHeartbeats 8000000
namespace Go.Proofs.YtedncpnkbpbchaaDoor
open Go.Vi
variable {q : Bool}

/-- The digits ahead of the last one, and what is left for it. -/
def vpre : Nat → Nat → List UInt8 × Nat
  | 0, n => ([], n)
  | f + 1, n => if n < 128 then ([], n) else (UInt8.ofNat (n % 128 + 128) :: (vpre f (n / 128)).1, (vpre f (n / 128)).2)
theorem vpre_len : ∀ f n, (vpre f n).1.length ≤ f
  | 0, _ => Nat.le_refl 0
  | f + 1, n => by
    have := vpre_len f (n / 128)
    simp only [vpre]; split
    · simp
    · simp; omega
theorem vpre_last : ∀ f n, n < 128 ^ (f + 1) → (vpre f n).2 < 128
  | 0, n, h => by simpa [vpre] using h
  | f + 1, n, h => by
    simp only [vpre]; split
    · assumption
    · refine vpre_last f (n / 128) ?_
      rw [Nat.pow_succ] at h
      exact Nat.div_lt_of_lt_mul (by rw [Nat.mul_comm]; exact h)
/-- A number's digits. -/
def vb (n : Nat) : List UInt8 := (vpre 9 n).1 ++ [UInt8.ofNat (vpre 9 n).2]
theorem vb_len (n : Nat) : (vb n).length ≤ 10 := by
  have := vpre_len 9 n
  simp only [vb, List.length_append, List.length_cons, List.length_nil]; omega

theorem v_step (n : Nat) (h : 128 ≤ n) (hn : n < 18446744073709551616) (o : List UInt8) (ho : o.length < 140737488355328) :
    X (M q) l_wire_varint_1 { env := [(0, .own 1 (bytesD o)), (1, .d (.int .u64 n))], bx := [] } = some (.norm, { env := [(0, .own 1 (bytesD (o ++ [UInt8.ofNat (n % 128 + 128)]))), (1, .d (.int .u64 (n / 128 : Nat)))], bx := [] }) := by
  have w := wrap_byte (n := n)
  have w2 := or128 (n := n)
  have w3 : (n : Int).fdiv 128 = ((n / 128 : Nat) : Int) := fdiv_nat
  have hb : bytesD (o ++ [UInt8.ofNat (n % 128 + 128)]) = bytesD o ++ [.int .u8 ((n % 128 + 128 : Nat) : Int)] := by
    rw [bytesD_append, bytesD_cons, bytesD_nil, byteD_ofNat (by omega)]
  have hlen := bytesD_length (s := o)
  rw [hb]
  simp -implicitDefEqProofs (maxSteps := 1000000) (disch := omega) only [↓Int.reduceLT, ↓Int.reduceLE, ↓Int.reduceEq, ↓Nat.reduceEqDiff, Nat.reduceBEq, ↓reduceIte, St.toRS, restrict, initEnv, plainArgs, reduceCtorEq, Nat.reduceEqDiff, Nat.reduceAdd, Nat.reduceMul, Int.reduceLT, Int.reduceLE, Int.reduceEq, Int.reduceNeg, Int.reduceAdd, Int.reduceToNat, Int.reduceNe, Nat.reduceSub, Int.reducePow, Int.reduceMul, vb0, vb1, vb2, vb3, vb4, vb5, vb6, vb7, l_wire_varint_1, w, w2, w3, hlen]
theorem v_loop : ∀ (f n : Nat) (o : List UInt8), n < 128 ^ (f + 1) → n < 18446744073709551616 → o.length + f + 1 < 140737488355328 →
    X (M q) (.loop l_wire_varint_1) { env := [(0, .own 1 (bytesD o)), (1, .d (.int .u64 n))], bx := [] } = some (.exit 0, { env := [(0, .own 1 (bytesD (o ++ (vpre f n).1))), (1, .d (.int .u64 ((vpre f n).2 : Nat))), (6, .d (.bool false))], bx := [] }) := by
  have stop : ∀ (n : Nat) (o : List UInt8), n < 128 → X (M q) (.loop l_wire_varint_1) { env := [(0, .own 1 (bytesD o)), (1, .d (.int .u64 n))], bx := [] } = some (.exit 0, { env := [(0, .own 1 (bytesD o)), (1, .d (.int .u64 n)), (6, .d (.bool false))], bx := [] }) := by
    intro n o h
    refine loop_exit ?_ (by simp)
    simp -implicitDefEqProofs (maxSteps := 1000000) (disch := omega) only [↓Int.reduceLT, ↓Int.reduceLE, ↓Int.reduceEq, ↓Nat.reduceEqDiff, Nat.reduceBEq, ↓reduceIte, St.toRS, restrict, initEnv, plainArgs, reduceCtorEq, Nat.reduceEqDiff, Nat.reduceAdd, Nat.reduceMul, Int.reduceLT, Int.reduceLE, Int.reduceEq, Int.reduceNeg, Int.reduceAdd, Int.reduceToNat, Int.reduceNe, Nat.reduceSub, Int.reducePow, Int.reduceMul, vb0, vb1, vb2, vb3, vb4, vb5, vb6, vb7, l_wire_varint_1]
  intro f
  induction f with
  | zero =>
    intro n o h1 h2 h3
    rw [stop n o (by simpa using h1)]
    simp [vpre]
  | succ f ih =>
    intro n o h1 h2 h3
    by_cases h : n < 128
    · rw [stop n o h]
      simp [vpre, h]
    · rw [X_loop, v_step n (by omega) h2 o (by omega)]
      simp only [andThen]
      rw [ih (n / 128) (o ++ [UInt8.ofNat (n % 128 + 128)]) (by
        rw [Nat.pow_succ] at h1
        exact Nat.div_lt_of_lt_mul (by rw [Nat.mul_comm]; exact h1)) (by omega) (by simp; omega)]
      simp only [vpre, if_neg h, List.append_assoc, List.singleton_append]
theorem varint_spec (n : Nat) (hn : n < 18446744073709551616) (o : List UInt8) (ho : o.length + 10 < 140737488355328) :
    C (M q) 60 [.own 1 (bytesD o), .d (.int .u64 n)] = some (.own 1 (bytesD (o ++ vb n))) := by
  rw [c_fn (sf := f_wire_varint) rfl rfl ⟨rfl, rfl⟩]
  have hl := v_loop (q := q) 9 n o (by omega) hn (by omega)
  have h1 := vpre_last 9 n (by omega)
  have h2 := vpre_len 9 n
  have hlen := bytesD_length (s := o ++ (vpre 9 n).1)
  simp only [List.length_append] at hlen
  have hb : bytesD (o ++ vb n) = bytesD (o ++ (vpre 9 n).1) ++ [.int .u8 (((vpre 9 n).2 : Nat) : Int)] := by
    rw [vb, ← List.append_assoc, bytesD_append, bytesD_cons, bytesD_nil, byteD_ofNat (by omega)]
  rw [hb]
  generalize (vpre 9 n).2 = r at *
  generalize bytesD (o ++ (vpre 9 n).1) = xs at *
  simp -implicitDefEqProofs (maxSteps := 1000000) (disch := omega) only [↓Int.reduceLT, ↓Int.reduceLE, ↓Int.reduceEq, ↓Nat.reduceEqDiff, Nat.reduceBEq, ↓reduceIte, St.toRS, restrict, initEnv, plainArgs, reduceCtorEq, Nat.reduceEqDiff, Nat.reduceAdd, Nat.reduceMul, Int.reduceLT, Int.reduceLE, Int.reduceEq, Int.reduceNeg, Int.reduceAdd, Int.reduceToNat, Int.reduceNe, Nat.reduceSub, Int.reducePow, Int.reduceMul, vb0, vb1, vb2, vb3, vb4, vb5, vb6, vb7, f_wire_varint, hl, hlen]

/-! ### The reference's -/
theorem rv_step (n : Nat) (h : 128 ≤ n) (hn : n < 18446744073709551616) (o : List UInt8) (ho : o.length < 140737488355328) :
    X (M q) l_ref1_PutVarint_1 { env := [(0, .d (.int .u64 n)), (3, .own 1 (bytesD o))], bx := [] } = some (.norm, { env := [(0, .d (.int .u64 (n / 128 : Nat))), (3, .own 1 (bytesD (o ++ [UInt8.ofNat (n % 128 + 128)])))], bx := [] }) := by
  have w1 : (n : Int).tmod 128 = ((n % 128 : Nat) : Int) := tmod_nat
  have w3 : (n : Int).tdiv 128 = ((n / 128 : Nat) : Int) := tdiv_nat
  have hb : bytesD (o ++ [UInt8.ofNat (n % 128 + 128)]) = bytesD o ++ [.int .u8 ((n % 128 + 128 : Nat) : Int)] := by
    rw [bytesD_append, bytesD_cons, bytesD_nil, byteD_ofNat (by omega)]
  have hlen := bytesD_length (s := o)
  rw [hb]
  simp -implicitDefEqProofs (maxSteps := 1000000) (disch := omega) only [↓Int.reduceLT, ↓Int.reduceLE, ↓Int.reduceEq, ↓Nat.reduceEqDiff, Nat.reduceBEq, ↓reduceIte, St.toRS, restrict, initEnv, plainArgs, reduceCtorEq, Nat.reduceEqDiff, Nat.reduceAdd, Nat.reduceMul, Int.reduceLT, Int.reduceLE, Int.reduceEq, Int.reduceNeg, Int.reduceAdd, Int.reduceToNat, Int.reduceNe, Nat.reduceSub, Int.reducePow, Int.reduceMul, vb0, vb1, vb2, vb3, vb4, vb5, vb6, vb7, l_ref1_PutVarint_1, w1, w3, hlen]
theorem rv_loop : ∀ (f n : Nat) (o : List UInt8), n < 128 ^ (f + 1) → n < 18446744073709551616 → o.length + f + 1 < 140737488355328 →
    X (M q) (.loop l_ref1_PutVarint_1) { env := [(0, .d (.int .u64 n)), (3, .own 1 (bytesD o))], bx := [] } = some (.exit 0, { env := [(0, .d (.int .u64 ((vpre f n).2 : Nat))), (3, .own 1 (bytesD (o ++ (vpre f n).1))), (5, .d (.bool false))], bx := [] }) := by
  have stop : ∀ (n : Nat) (o : List UInt8), n < 128 → X (M q) (.loop l_ref1_PutVarint_1) { env := [(0, .d (.int .u64 n)), (3, .own 1 (bytesD o))], bx := [] } = some (.exit 0, { env := [(0, .d (.int .u64 n)), (3, .own 1 (bytesD o)), (5, .d (.bool false))], bx := [] }) := by
    intro n o h
    refine loop_exit ?_ (by simp)
    simp -implicitDefEqProofs (maxSteps := 1000000) (disch := omega) only [↓Int.reduceLT, ↓Int.reduceLE, ↓Int.reduceEq, ↓Nat.reduceEqDiff, Nat.reduceBEq, ↓reduceIte, St.toRS, restrict, initEnv, plainArgs, reduceCtorEq, Nat.reduceEqDiff, Nat.reduceAdd, Nat.reduceMul, Int.reduceLT, Int.reduceLE, Int.reduceEq, Int.reduceNeg, Int.reduceAdd, Int.reduceToNat, Int.reduceNe, Nat.reduceSub, Int.reducePow, Int.reduceMul, vb0, vb1, vb2, vb3, vb4, vb5, vb6, vb7, l_ref1_PutVarint_1]
  intro f
  induction f with
  | zero =>
    intro n o h1 h2 h3
    rw [stop n o (by simpa using h1)]
    simp [vpre]
  | succ f ih =>
    intro n o h1 h2 h3
    by_cases h : n < 128
    · rw [stop n o h]
      simp [vpre, h]
    · rw [X_loop, rv_step n (by omega) h2 o (by omega)]
      simp only [andThen]
      rw [ih (n / 128) (o ++ [UInt8.ofNat (n % 128 + 128)]) (by
        rw [Nat.pow_succ] at h1
        exact Nat.div_lt_of_lt_mul (by rw [Nat.mul_comm]; exact h1)) (by omega) (by simp; omega)]
      simp only [vpre, if_neg h, List.append_assoc, List.singleton_append]
theorem rputVarint_spec (n : Nat) (hn : n < 18446744073709551616) :
    C (M q) 42 [.d (.int .u64 n)] = some (.own 1 (bytesD (vb n))) := by
  rw [c_fn (sf := f_ref1_PutVarint) rfl rfl ⟨rfl, rfl⟩]
  have hl := rv_loop (q := q) 9 n [] (by omega) hn (by simp)
  have h1 := vpre_last 9 n (by omega)
  have h2 := vpre_len 9 n
  simp only [List.nil_append, bytesD_nil] at hl
  have hlen := bytesD_length (s := (vpre 9 n).1)
  have hb : bytesD (vb n) = bytesD (vpre 9 n).1 ++ [.int .u8 (((vpre 9 n).2 : Nat) : Int)] := by
    rw [vb, bytesD_append, bytesD_cons, bytesD_nil, byteD_ofNat (by omega)]
  rw [hb]
  generalize (vpre 9 n).2 = r at *
  generalize bytesD (vpre 9 n).1 = xs at *
  simp -implicitDefEqProofs (maxSteps := 1000000) (disch := omega) only [↓Int.reduceLT, ↓Int.reduceLE, ↓Int.reduceEq, ↓Nat.reduceEqDiff, Nat.reduceBEq, ↓reduceIte, St.toRS, restrict, initEnv, plainArgs, reduceCtorEq, Nat.reduceEqDiff, Nat.reduceAdd, Nat.reduceMul, Int.reduceLT, Int.reduceLE, Int.reduceEq, Int.reduceNeg, Int.reduceAdd, Int.reduceToNat, Int.reduceNe, Nat.reduceSub, Int.reducePow, Int.reduceMul, vb0, vb1, vb2, vb3, vb4, vb5, vb6, vb7, f_ref1_PutVarint, hl, hlen]
end Go.Proofs.YtedncpnkbpbchaaDoor
