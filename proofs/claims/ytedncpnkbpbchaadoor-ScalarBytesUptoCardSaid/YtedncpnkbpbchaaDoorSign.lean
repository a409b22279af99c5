/-
  Signs at a number's end, and numbers read back from digits by base 128: what the program and the reference answer, over data.
-/
import Derived.Test.YtedncpnkbpbchaaDoorWord
set_option linter.unusedVariables false
set_option linter.unusedSimpArgs false
set_option maxRecDepth 100000
set_option maxHeartbeats 8000000
namespace Go.Proofs.YtedncpnkbpbchaaDoor
open Go.Vi
variable {q : Bool}

theorem xor_zero {a : Nat} (h : a < 18446744073709551616) : bitsD .xor .u64 (a : Int) 0 = a := by
  have := xor_u64 h (b := 0) (by omega)
  simpa using this
theorem nat_xor_ones {a : Nat} (h : a < 18446744073709551616) : a ^^^ 18446744073709551615 = 18446744073709551615 - a := by
  have h1 := congrArg BitVec.toNat (BitVec.xor_allOnes (x := BitVec.ofNat 64 a))
  rw [BitVec.toNat_xor, BitVec.toNat_not, BitVec.toNat_allOnes, BitVec.toNat_ofNat, Nat.mod_eq_of_lt (by omega)] at h1
  simpa using h1
theorem xor_ones {a : Nat} (h : a < 18446744073709551616) : bitsD .xor .u64 (a : Int) 18446744073709551615 = ((18446744073709551615 - a : Nat) : Int) := by
  have := xor_u64 h (b := 18446744073709551615) (by omega)
  rw [nat_xor_ones h] at this
  exact this
theorem and_one {a : Nat} (h : a < 18446744073709551616) : bitsD .and .u64 (a : Int) 1 = ((a % 2 : Nat) : Int) := by
  have := and_u64 h (b := 1) (by omega)
  rw [Nat.and_one_is_mod] at this
  exact this
theorem wrap_i64_nat {a : Nat} : IntKind.i64.wrap (a : Int) = if a % 18446744073709551616 < 9223372036854775808 then ((a % 18446744073709551616 : Nat) : Int) else ((a % 18446744073709551616 : Nat) : Int) - 18446744073709551616 := by
  simp [IntKind.wrap, IntKind.min, IntKind.max, IntKind.signed, IntKind.bits]
  split <;> omega
theorem xori_zero {a : Nat} (h : a < 9223372036854775808) : bitsD .xor .i64 (a : Int) 0 = a := by
  show IntKind.i64.wrap ((BitVec.ofInt 64 (a : Int) ^^^ BitVec.ofInt 64 0).toNat : Int) = _
  rw [BitVec.toNat_xor, ofInt_nat a (by omega)]
  rw [show (BitVec.ofInt 64 0).toNat = 0 by decide, Nat.xor_zero]
  rw [wrap_i64_nat, if_pos (by omega)]
  omega
theorem xori_neg {a : Nat} (h : a < 9223372036854775808) : bitsD .xor .i64 (a : Int) (-1) = -1 - (a : Int) := by
  show IntKind.i64.wrap ((BitVec.ofInt 64 (a : Int) ^^^ BitVec.ofInt 64 (-1)).toNat : Int) = _
  rw [BitVec.toNat_xor, ofInt_nat a (by omega), show (BitVec.ofInt 64 (-1)).toNat = 18446744073709551615 by decide, nat_xor_ones (by omega)]
  rw [wrap_i64_nat, if_neg (by omega)]
  omega
theorem wrap_u64_neg {n : Int} (h0 : -9223372036854775808 ≤ n) (h1 : n < 0) : IntKind.u64.wrap n = n + 18446744073709551616 := by
  simp [IntKind.wrap, IntKind.min, IntKind.max, IntKind.signed, IntKind.bits]
  omega
theorem wrap_u64_twice {n : Int} (h0 : -9223372036854775808 ≤ n) (h1 : n < 0) : IntKind.u64.wrap ((n + 18446744073709551616) * 2) = 2 * n + 18446744073709551616 := by
  simp [IntKind.wrap, IntKind.min, IntKind.max, IntKind.signed, IntKind.bits]
  omega
/-- A number with its sign at the end. -/
def zz (n : Int) : Nat := if 0 ≤ n then (2 * n).toNat else (-2 * n - 1).toNat
theorem zz_lt {n : Int} (h0 : -9223372036854775808 ≤ n) (h1 : n ≤ 9223372036854775807) : zz n < 18446744073709551616 := by
  simp only [zz]; split <;> omega
theorem zigZag_spec (n : Int) (h0 : -9223372036854775808 ≤ n) (h1 : n ≤ 9223372036854775807) : C (M q) 34 [.d (.int .i64 n)] = some (.d (.int .u64 (zz n))) := by
  rw [c_fn (sf := f_wire_ZigZag) rfl rfl ⟨rfl, rfl⟩]
  have s63 : shAmt .i64 63 = 63 := rfl
  have p63 : (2 : Int) ^ 63 = 9223372036854775808 := by decide
  by_cases h : 0 ≤ n
  · obtain ⟨a, rfl⟩ := Int.eq_ofNat_of_zero_le h
    have e : ((zz (a : Int) : Nat) : Int) = (a : Int) * 2 := by simp only [zz, if_pos h]; omega
    have e1 : (a : Int).fdiv 9223372036854775808 = 0 := by
      rw [show (9223372036854775808 : Int) = ((9223372036854775808 : Nat) : Int) from rfl, fdiv_nat, Nat.div_eq_of_lt (by omega)]; rfl
    have e2 : bitsD .xor .u64 ((a * 2 : Nat) : Int) 0 = ((a * 2 : Nat) : Int) := xor_zero (by omega)
    rw [e]
    simp -implicitDefEqProofs (maxSteps := 1000000) (disch := omega) only [↓Int.reduceLT, ↓Int.reduceLE, ↓Int.reduceEq, ↓Nat.reduceEqDiff, Nat.reduceBEq, ↓reduceIte, St.toRS, restrict, initEnv, plainArgs, reduceCtorEq, Nat.reduceEqDiff, Nat.reduceAdd, Nat.reduceMul, Int.reduceLT, Int.reduceLE, Int.reduceEq, Int.reduceNeg, Int.reduceAdd, Int.reduceToNat, Int.reduceNe, Nat.reduceSub, Int.reducePow, Int.reduceMul, vb0, vb1, vb2, vb3, vb4, vb5, vb6, vb7, f_wire_ZigZag, s63, p63, e1, e2]
  · have e : ((zz n : Nat) : Int) = -2 * n - 1 := by simp only [zz, if_neg h]; omega
    have e0 := wrap_u64_neg h0 (by omega)
    have e1 : n.fdiv 9223372036854775808 = -1 := by
      rw [Int.fdiv_eq_ediv_of_nonneg _ (by omega)]; omega
    have e3 := wrap_u64_twice h0 (by omega)
    have e4 : IntKind.u64.wrap (-1) = 18446744073709551615 := by decide
    obtain ⟨a, ha⟩ := Int.eq_ofNat_of_zero_le (show 0 ≤ 2 * n + 18446744073709551616 by omega)
    have e2 : bitsD .xor .u64 (a : Int) 18446744073709551615 = ((18446744073709551615 - a : Nat) : Int) := xor_ones (by omega)
    have e5 : ((18446744073709551615 - a : Nat) : Int) = -2 * n - 1 := by omega
    rw [e]
    simp -implicitDefEqProofs (maxSteps := 1000000) (disch := omega) only [↓Int.reduceLT, ↓Int.reduceLE, ↓Int.reduceEq, ↓Nat.reduceEqDiff, Nat.reduceBEq, ↓reduceIte, St.toRS, restrict, initEnv, plainArgs, reduceCtorEq, Nat.reduceEqDiff, Nat.reduceAdd, Nat.reduceMul, Int.reduceLT, Int.reduceLE, Int.reduceEq, Int.reduceNeg, Int.reduceAdd, Int.reduceToNat, Int.reduceNe, Nat.reduceSub, Int.reducePow, Int.reduceMul, vb0, vb1, vb2, vb3, vb4, vb5, vb6, vb7, f_wire_ZigZag, s63, p63, e0, e1, e3, e4, ha, e2, e5]
theorem rzigZag_spec (n : Int) (h0 : -9223372036854775808 ≤ n) (h1 : n ≤ 9223372036854775807) : C (M q) 43 [.d (.int .i64 n)] = some (.d (.int .u64 (zz n))) := by
  rw [c_fn (sf := f_ref1_ZigZag) rfl rfl ⟨rfl, rfl⟩]
  by_cases h : 0 ≤ n
  · obtain ⟨a, rfl⟩ := Int.eq_ofNat_of_zero_le h
    have e : ((zz (a : Int) : Nat) : Int) = (a : Int) * 2 := by simp only [zz, if_pos h]; omega
    rw [e]
    simp -implicitDefEqProofs (maxSteps := 1000000) (disch := omega) only [↓Int.reduceLT, ↓Int.reduceLE, ↓Int.reduceEq, ↓Nat.reduceEqDiff, Nat.reduceBEq, ↓reduceIte, St.toRS, restrict, initEnv, plainArgs, reduceCtorEq, Nat.reduceEqDiff, Nat.reduceAdd, Nat.reduceMul, Int.reduceLT, Int.reduceLE, Int.reduceEq, Int.reduceNeg, Int.reduceAdd, Int.reduceToNat, Int.reduceNe, Nat.reduceSub, Int.reducePow, Int.reduceMul, vb0, vb1, vb2, vb3, vb4, vb5, vb6, vb7, f_ref1_ZigZag]
  · have e : ((zz n : Nat) : Int) = (0 - (n + 1)) * 2 + 1 := by simp only [zz, if_neg h]; omega
    rw [e]
    simp -implicitDefEqProofs (maxSteps := 1000000) (disch := omega) only [↓Int.reduceLT, ↓Int.reduceLE, ↓Int.reduceEq, ↓Nat.reduceEqDiff, Nat.reduceBEq, ↓reduceIte, St.toRS, restrict, initEnv, plainArgs, reduceCtorEq, Nat.reduceEqDiff, Nat.reduceAdd, Nat.reduceMul, Int.reduceLT, Int.reduceLE, Int.reduceEq, Int.reduceNeg, Int.reduceAdd, Int.reduceToNat, Int.reduceNe, Nat.reduceSub, Int.reducePow, Int.reduceMul, vb0, vb1, vb2, vb3, vb4, vb5, vb6, vb7, f_ref1_ZigZag]
/-- The number back. -/
def zag (u : Nat) : Int := if u % 2 = 0 then ((u / 2 : Nat) : Int) else -((u / 2 : Nat) : Int) - 1
theorem zagZig_spec (u : Nat) (h : u < 18446744073709551616) : C (M q) 40 [.d (.int .u64 u)] = some (.d (.int .i64 (zag u))) := by
  rw [c_fn (sf := f_wire_ZagZig) rfl rfl ⟨rfl, rfl⟩]
  have e1 : (u : Int).fdiv 2 = ((u / 2 : Nat) : Int) := fdiv_nat
  have e2 := and_one h
  have p1 : (2 : Int) ^ 1 = 2 := by decide
  by_cases c : u % 2 = 0
  · have e : zag u = ((u / 2 : Nat) : Int) := by simp only [zag, if_pos c]
    have e3 := xori_zero (a := u / 2) (by omega)
    rw [e]
    rw [c] at e2
    have e4 : (0 : Int) - 0 = 0 := rfl
    simp -implicitDefEqProofs (maxSteps := 1000000) (disch := omega) only [↓Int.reduceLT, ↓Int.reduceLE, ↓Int.reduceEq, ↓Nat.reduceEqDiff, Nat.reduceBEq, ↓reduceIte, St.toRS, restrict, initEnv, plainArgs, reduceCtorEq, Nat.reduceEqDiff, Nat.reduceAdd, Nat.reduceMul, Int.reduceLT, Int.reduceLE, Int.reduceEq, Int.reduceNeg, Int.reduceAdd, Int.reduceToNat, Int.reduceNe, Nat.reduceSub, Int.reducePow, Int.reduceMul, vb0, vb1, vb2, vb3, vb4, vb5, vb6, vb7, f_wire_ZagZig, p1, e1, e2, e3, e4]
  · have e : zag u = -1 - ((u / 2 : Nat) : Int) := by simp only [zag, if_neg c]; omega
    have e3 := xori_neg (a := u / 2) (by omega)
    have c1 : u % 2 = 1 := by omega
    rw [e]
    rw [c1] at e2
    have e4 : (0 : Int) - 1 = -1 := rfl
    simp -implicitDefEqProofs (maxSteps := 1000000) (disch := omega) only [↓Int.reduceLT, ↓Int.reduceLE, ↓Int.reduceEq, ↓Nat.reduceEqDiff, Nat.reduceBEq, ↓reduceIte, St.toRS, restrict, initEnv, plainArgs, reduceCtorEq, Nat.reduceEqDiff, Nat.reduceAdd, Nat.reduceMul, Int.reduceLT, Int.reduceLE, Int.reduceEq, Int.reduceNeg, Int.reduceAdd, Int.reduceToNat, Int.reduceNe, Nat.reduceSub, Int.reducePow, Int.reduceMul, vb0, vb1, vb2, vb3, vb4, vb5, vb6, vb7, f_wire_ZagZig, p1, e1, e2, e3, e4]
theorem rzagZig_spec (u : Nat) (h : u < 18446744073709551616) : C (M q) 48 [.d (.int .u64 u)] = some (.d (.int .i64 (zag u))) := by
  rw [c_fn (sf := f_ref1_ZagZig) rfl rfl ⟨rfl, rfl⟩]
  have e1 : (u : Int).tdiv 2 = ((u / 2 : Nat) : Int) := tdiv_nat
  have e2 : (u : Int).tmod 2 = ((u % 2 : Nat) : Int) := tmod_nat
  by_cases c : u % 2 = 0
  · have e : zag u = ((u / 2 : Nat) : Int) := by simp only [zag, if_pos c]
    rw [e]
    simp -implicitDefEqProofs (maxSteps := 1000000) (disch := omega) only [↓Int.reduceLT, ↓Int.reduceLE, ↓Int.reduceEq, ↓Nat.reduceEqDiff, Nat.reduceBEq, ↓reduceIte, St.toRS, restrict, initEnv, plainArgs, reduceCtorEq, Nat.reduceEqDiff, Nat.reduceAdd, Nat.reduceMul, Int.reduceLT, Int.reduceLE, Int.reduceEq, Int.reduceNeg, Int.reduceAdd, Int.reduceToNat, Int.reduceNe, Nat.reduceSub, Int.reducePow, Int.reduceMul, vb0, vb1, vb2, vb3, vb4, vb5, vb6, vb7, f_ref1_ZagZig, e1, e2]
  · have e : zag u = 0 - ((u / 2 : Nat) : Int) - 1 := by simp only [zag, if_neg c]; omega
    rw [e]
    simp -implicitDefEqProofs (maxSteps := 1000000) (disch := omega) only [↓Int.reduceLT, ↓Int.reduceLE, ↓Int.reduceEq, ↓Nat.reduceEqDiff, Nat.reduceBEq, ↓reduceIte, St.toRS, restrict, initEnv, plainArgs, reduceCtorEq, Nat.reduceEqDiff, Nat.reduceAdd, Nat.reduceMul, Int.reduceLT, Int.reduceLE, Int.reduceEq, Int.reduceNeg, Int.reduceAdd, Int.reduceToNat, Int.reduceNe, Nat.reduceSub, Int.reducePow, Int.reduceMul, vb0, vb1, vb2, vb3, vb4, vb5, vb6, vb7, f_ref1_ZagZig, e1, e2]
theorem zag_lo {u : Nat} (h : u < 18446744073709551616) : -9223372036854775808 ≤ zag u ∧ zag u ≤ 9223372036854775807 := by
  simp only [zag]; split <;> omega

/-! ### A number read back -/
/-- The number, the place behind it, the error: from digit k on, at most f digits. -/
def gvF (b : List UInt8) (a : Nat) : Nat → Nat → Nat → Nat × Nat × Nat
  | 0, _, _ => (0, 0, 3)
  | f + 1, k, n =>
    match b[a + k]? with
    | none => (0, 0, 3)
    | some c => if k = 9 ∧ 1 < c.toNat then (0, 0, 4) else
      if c.toNat < 128 then (n ||| c.toNat % 128 * 2 ^ (7 * k), a + k + 1, 0) else gvF b a f (k + 1) (n ||| c.toNat % 128 * 2 ^ (7 * k))
theorem part_lt {c k : Nat} (hc : c < 256) (hk : k ≤ 9) (h : ¬ (k = 9 ∧ 1 < c)) : c % 128 * 2 ^ (7 * k) < 18446744073709551616 := by
  by_cases h9 : k = 9
  · subst h9
    have : c ≤ 1 := by omega
    have : c % 128 ≤ 1 := by omega
    calc c % 128 * 2 ^ (7 * 9) ≤ 1 * 2 ^ (7 * 9) := Nat.mul_le_mul_right _ this
      _ < _ := by decide
  · have h1 : 2 ^ (7 * k) ≤ 2 ^ 56 := Nat.pow_le_pow_right (by omega) (by omega)
    calc c % 128 * 2 ^ (7 * k) ≤ 127 * 2 ^ 56 := Nat.mul_le_mul (by omega) h1
      _ < _ := by decide
theorem or_lt {a b : Nat} (ha : a < 18446744073709551616) (hb : b < 18446744073709551616) : a ||| b < 18446744073709551616 := Nat.or_lt_two_pow (n := 64) ha hb
theorem sh_7k {k : Nat} (h : k ≤ 9) : shAmt .u64 ((7 * k : Nat) : Int) = 7 * k := by
  simp only [shAmt, Int.toNat_natCast, IntKind.bits]
  omega
theorem up_7i (i : Nat) : (7 : Int) * (i : Int) = ((7 * i : Nat) : Int) := rfl
theorem mul_pow (m k : Nat) : (m : Int) * 2 ^ k = ((m * 2 ^ k : Nat) : Int) := by simp
def gvO (r : Nat × Nat × Nat) : St := { env := [(4, .d (.int .u64 r.1)), (5, .d (.int .i64 r.2.1)), (6, .d (.int .i64 r.2.2))], bx := [] }
def gv_st (b : List UInt8) (a k n : Nat) : St := { env := [(0, .d (.slice 1 (bytesD b))), (1, .d (.int .i64 a)), (4, .d (.int .u64 n)), (13, .d (.int .i64 k))], bx := [] }
theorem gv_loop (b : List UInt8) (a : Nat) (hb : b.length ≤ 1048576) (ha : a ≤ b.length) : ∀ (f k n : Nat), k + f = 10 → n < 18446744073709551616 → a + k ≤ b.length →
    (gvF b a f k n = (0, 0, 3) ∧ ∃ E, X (M q) (.loop l_wire_GetVarint_1) (gv_st b a k n) = some (.exit 0, { env := E, bx := [] })) ∨
    X (M q) (.loop l_wire_GetVarint_1) (gv_st b a k n) = some (.ret, gvO (gvF b a f k n)) := by
  have hlen := bytesD_length (s := b)
  intro f
  induction f with
  | zero =>
    intro k n hk hn hak
    obtain rfl : k = 10 := by omega
    left
    refine ⟨rfl, [(0, .d (.slice 1 (bytesD b))), (1, .d (.int .i64 a)), (4, .d (.int .u64 n)), (13, .d (.int .i64 10)), (14, .d (.bool false))], ?_⟩
    refine loop_exit ?_ (by simp)
    simp -implicitDefEqProofs (maxSteps := 1000000) (disch := omega) only [↓Int.reduceLT, ↓Int.reduceLE, ↓Int.reduceEq, ↓Nat.reduceEqDiff, Nat.reduceBEq, ↓reduceIte, St.toRS, restrict, initEnv, plainArgs, reduceCtorEq, Nat.reduceEqDiff, Nat.reduceAdd, Nat.reduceMul, Int.reduceLT, Int.reduceLE, Int.reduceEq, Int.reduceNeg, Int.reduceAdd, Int.reduceToNat, Int.reduceNe, Nat.reduceSub, Int.reducePow, Int.reduceMul, vb0, vb1, vb2, vb3, vb4, vb5, vb6, vb7, l_wire_GetVarint_1, gv_st]
  | succ f ih =>
    intro k n hk hn hak
    rcases Nat.lt_or_ge (a + k) b.length with hlt | hge
    · have hg : (bytesD b)[a + k]? = some (.int .u8 ((b[a + k]).toNat : Int)) := by rw [bytesD_get, List.getElem?_eq_getElem hlt]; rfl
      have hc := (b[a + k]).toNat_lt
      have hgv : b[a + k]? = some b[a + k] := List.getElem?_eq_getElem hlt
      by_cases h9 : k = 9 ∧ 1 < b[a + k].toNat
      · have e : gvF b a (f + 1) k n = (0, 0, 4) := by simp only [gvF, hgv]; rw [if_pos h9]
        rw [e]
        right
        obtain ⟨rfl, h9⟩ := h9
        generalize (b[a + 9]).toNat = c at *
        refine loop_exit ?_ (by simp)
        simp -implicitDefEqProofs (maxSteps := 1000000) (disch := omega) only [↓Int.reduceLT, ↓Int.reduceLE, ↓Int.reduceEq, ↓Nat.reduceEqDiff, Nat.reduceBEq, ↓reduceIte, St.toRS, restrict, initEnv, plainArgs, reduceCtorEq, Nat.reduceEqDiff, Nat.reduceAdd, Nat.reduceMul, Int.reduceLT, Int.reduceLE, Int.reduceEq, Int.reduceNeg, Int.reduceAdd, Int.reduceToNat, Int.reduceNe, Nat.reduceSub, Int.reducePow, Int.reduceMul, vb0, vb1, vb2, vb3, vb4, vb5, vb6, vb7, l_wire_GetVarint_1, gv_st, gvO, hg, hlen]
      · have p := part_lt hc (k := k) (by omega) h9
        have w1 : IntKind.u64.wrap ((b[a + k].toNat % 128 * 2 ^ (7 * k) : Nat) : Int) = ((b[a + k].toNat % 128 * 2 ^ (7 * k) : Nat) : Int) := wrap_u64_nat p
        have w2 := or_u64 hn p
        have w3 := and127 hc
        have w4 := sh_7k (k := k) (by omega)
        have w5 := mul_pow (b[a + k].toNat % 128) (7 * k)
        have hm := or_lt hn p
        have step : gvF b a (f + 1) k n = if b[a + k].toNat < 128 then (n ||| b[a + k].toNat % 128 * 2 ^ (7 * k), a + k + 1, 0) else gvF b a f (k + 1) (n ||| b[a + k].toNat % 128 * 2 ^ (7 * k)) := by
          simp only [gvF, hgv]; rw [if_neg h9]
        rw [step]
        by_cases h128 : b[a + k].toNat < 128
        · rw [if_pos h128]
          right
          refine loop_exit ?_ (by simp)
          have hp : k = 9 → b[a + k].toNat % 128 * 9223372036854775808 = b[a + k].toNat % 128 * 2 ^ (7 * k) := by rintro rfl; rfl
          clear step
          generalize (b[a + k]).toNat = c at *
          generalize c % 128 * 2 ^ (7 * k) = p' at *
          generalize n ||| p' = m at *
          by_cases hk9 : k = 9
          · have hp := hp hk9
            subst hk9
            simp -implicitDefEqProofs (maxSteps := 1000000) (disch := omega) only [↓Int.reduceLT, ↓Int.reduceLE, ↓Int.reduceEq, ↓Nat.reduceEqDiff, Nat.reduceBEq, ↓reduceIte, St.toRS, restrict, initEnv, plainArgs, reduceCtorEq, Nat.reduceEqDiff, Nat.reduceAdd, Nat.reduceMul, Int.reduceLT, Int.reduceLE, Int.reduceEq, Int.reduceNeg, Int.reduceAdd, Int.reduceToNat, Int.reduceNe, Nat.reduceSub, Int.reducePow, Int.reduceMul, vb0, vb1, vb2, vb3, vb4, vb5, vb6, vb7, l_wire_GetVarint_1, gv_st, gvO, hg, hlen, up_7i, w1, w2, w3, hp]
          · clear hp
            simp -implicitDefEqProofs (maxSteps := 1000000) (disch := omega) only [↓Int.reduceLT, ↓Int.reduceLE, ↓Int.reduceEq, ↓Nat.reduceEqDiff, Nat.reduceBEq, ↓reduceIte, St.toRS, restrict, initEnv, plainArgs, reduceCtorEq, Nat.reduceEqDiff, Nat.reduceAdd, Nat.reduceMul, Int.reduceLT, Int.reduceLE, Int.reduceEq, Int.reduceNeg, Int.reduceAdd, Int.reduceToNat, Int.reduceNe, Nat.reduceSub, Int.reducePow, Int.reduceMul, vb0, vb1, vb2, vb3, vb4, vb5, vb6, vb7, l_wire_GetVarint_1, gv_st, gvO, hg, hlen, up_7i, w1, w2, w3, w4, w5]
        · rw [if_neg h128]
          have hk9 : k ≠ 9 := fun h => h9 ⟨h, by omega⟩
          have hr : X (M q) l_wire_GetVarint_1 (gv_st b a k n) = some (.norm, gv_st b a (k + 1) (n ||| b[a + k].toNat % 128 * 2 ^ (7 * k))) := by
            generalize (b[a + k]).toNat = c at *
            generalize c % 128 * 2 ^ (7 * k) = p' at *
            generalize n ||| p' = m at *
            simp -implicitDefEqProofs (maxSteps := 1000000) (disch := omega) only [↓Int.reduceLT, ↓Int.reduceLE, ↓Int.reduceEq, ↓Nat.reduceEqDiff, Nat.reduceBEq, ↓reduceIte, St.toRS, restrict, initEnv, plainArgs, reduceCtorEq, Nat.reduceEqDiff, Nat.reduceAdd, Nat.reduceMul, Int.reduceLT, Int.reduceLE, Int.reduceEq, Int.reduceNeg, Int.reduceAdd, Int.reduceToNat, Int.reduceNe, Nat.reduceSub, Int.reducePow, Int.reduceMul, vb0, vb1, vb2, vb3, vb4, vb5, vb6, vb7, l_wire_GetVarint_1, gv_st, gvO, hg, hlen, up_7i, w1, w2, w3, w4, w5]
          rw [X_loop, hr]
          simp only [andThen]
          rcases ih (k + 1) _ (by omega) hm (by omega) with ⟨i1, i2⟩ | i
          · exact Or.inl ⟨i1, i2⟩
          · exact Or.inr i
    · have hge2 : a + k = b.length := by omega
      left
      have hgv : b[a + k]? = none := List.getElem?_eq_none hge
      refine ⟨by simp only [gvF, hgv], [(0, .d (.slice 1 (bytesD b))), (1, .d (.int .i64 a)), (4, .d (.int .u64 n)), (7, .d (.int .i64 k)), (13, .d (.int .i64 k)), (21, .d (.bool true))], ?_⟩
      refine loop_exit ?_ (by simp)
      simp -implicitDefEqProofs (maxSteps := 1000000) (disch := omega) only [↓Int.reduceLT, ↓Int.reduceLE, ↓Int.reduceEq, ↓Nat.reduceEqDiff, Nat.reduceBEq, ↓reduceIte, St.toRS, restrict, initEnv, plainArgs, reduceCtorEq, Nat.reduceEqDiff, Nat.reduceAdd, Nat.reduceMul, Int.reduceLT, Int.reduceLE, Int.reduceEq, Int.reduceNeg, Int.reduceAdd, Int.reduceToNat, Int.reduceNe, Nat.reduceSub, Int.reducePow, Int.reduceMul, vb0, vb1, vb2, vb3, vb4, vb5, vb6, vb7, l_wire_GetVarint_1, gv_st, hlen]
theorem place_spec (b : List UInt8) (a : Int) (hb : b.length ≤ 1048576) : C (M q) 65 [.d (.slice 1 (bytesD b)), .d (.int .i64 a)] = some (.d (.bool (decide (0 ≤ a ∧ a ≤ b.length)))) := by
  rw [c_fn (sf := f_wire_place) rfl rfl ⟨rfl, rfl⟩]
  have hlen := bytesD_length (s := b)
  by_cases h0 : 0 ≤ a
  · by_cases h1 : a ≤ b.length
    · have e : decide (0 ≤ a ∧ a ≤ b.length) = true := by simp [h0, h1]
      rw [e]
      simp -implicitDefEqProofs (maxSteps := 1000000) (disch := omega) only [↓Int.reduceLT, ↓Int.reduceLE, ↓Int.reduceEq, ↓Nat.reduceEqDiff, Nat.reduceBEq, ↓reduceIte, St.toRS, restrict, initEnv, plainArgs, reduceCtorEq, Nat.reduceEqDiff, Nat.reduceAdd, Nat.reduceMul, Int.reduceLT, Int.reduceLE, Int.reduceEq, Int.reduceNeg, Int.reduceAdd, Int.reduceToNat, Int.reduceNe, Nat.reduceSub, Int.reducePow, Int.reduceMul, vb0, vb1, vb2, vb3, vb4, vb5, vb6, vb7, f_wire_place, hlen]
    · have e : decide (0 ≤ a ∧ a ≤ b.length) = false := by simp [h1]
      rw [e]
      simp -implicitDefEqProofs (maxSteps := 1000000) (disch := omega) only [↓Int.reduceLT, ↓Int.reduceLE, ↓Int.reduceEq, ↓Nat.reduceEqDiff, Nat.reduceBEq, ↓reduceIte, St.toRS, restrict, initEnv, plainArgs, reduceCtorEq, Nat.reduceEqDiff, Nat.reduceAdd, Nat.reduceMul, Int.reduceLT, Int.reduceLE, Int.reduceEq, Int.reduceNeg, Int.reduceAdd, Int.reduceToNat, Int.reduceNe, Nat.reduceSub, Int.reducePow, Int.reduceMul, vb0, vb1, vb2, vb3, vb4, vb5, vb6, vb7, f_wire_place, hlen]
  · have e : decide (0 ≤ a ∧ a ≤ b.length) = false := by simp [h0]
    rw [e]
    simp -implicitDefEqProofs (maxSteps := 1000000) (disch := omega) only [↓Int.reduceLT, ↓Int.reduceLE, ↓Int.reduceEq, ↓Nat.reduceEqDiff, Nat.reduceBEq, ↓reduceIte, St.toRS, restrict, initEnv, plainArgs, reduceCtorEq, Nat.reduceEqDiff, Nat.reduceAdd, Nat.reduceMul, Int.reduceLT, Int.reduceLE, Int.reduceEq, Int.reduceNeg, Int.reduceAdd, Int.reduceToNat, Int.reduceNe, Nat.reduceSub, Int.reducePow, Int.reduceMul, vb0, vb1, vb2, vb3, vb4, vb5, vb6, vb7, f_wire_place, hlen]
theorem jump_ret {b : SC} {st : St} : jumpIn (M q) b (some (.ret, st)) = some (.ret, st) := rfl
/-- A number's answer as the program gives it. -/
def gvD (r : Nat × Nat × Nat) : V := .tup [.int .u64 r.1, .int .i64 r.2.1, .int .i64 r.2.2]
theorem getVarint_spec (b : List UInt8) (a : Nat) (hb : b.length ≤ 1048576) (ha : a ≤ b.length) : C (M q) 39 [.d (.slice 1 (bytesD b)), .d (.int .i64 a)] = some (gvD (gvF b a 10 0 0)) := by
  rw [c_fn (sf := f_wire_GetVarint) rfl rfl ⟨rfl, rfl⟩]
  have hp := place_spec (q := q) b a hb
  have e : decide ((0 : Int) ≤ a ∧ (a : Int) ≤ b.length) = true := by simp; omega
  rw [e] at hp
  have hl := gv_loop (q := q) b a hb ha 10 0 0 (by omega) (by omega) (by omega)
  simp only [gv_st, Int.cast_ofNat_Int] at hl
  rcases hl with ⟨h1, E, h2⟩ | h2
  · rw [h1]
    clear h1
    simp -implicitDefEqProofs (maxSteps := 1000000) (disch := omega) only [↓Int.reduceLT, ↓Int.reduceLE, ↓Int.reduceEq, ↓Nat.reduceEqDiff, Nat.reduceBEq, ↓reduceIte, St.toRS, restrict, initEnv, plainArgs, reduceCtorEq, Nat.reduceEqDiff, Nat.reduceAdd, Nat.reduceMul, Int.reduceLT, Int.reduceLE, Int.reduceEq, Int.reduceNeg, Int.reduceAdd, Int.reduceToNat, Int.reduceNe, Nat.reduceSub, Int.reducePow, Int.reduceMul, vb0, vb1, vb2, vb3, vb4, vb5, vb6, vb7, f_wire_GetVarint, b_wire_GetVarint_15, SC.scp, X_scope, jump_ret, hp, h2, gvD]
  · generalize gvF b a 10 0 0 = r at *
    simp only [gvO] at h2
    simp -implicitDefEqProofs (maxSteps := 1000000) (disch := omega) only [↓Int.reduceLT, ↓Int.reduceLE, ↓Int.reduceEq, ↓Nat.reduceEqDiff, Nat.reduceBEq, ↓reduceIte, St.toRS, restrict, initEnv, plainArgs, reduceCtorEq, Nat.reduceEqDiff, Nat.reduceAdd, Nat.reduceMul, Int.reduceLT, Int.reduceLE, Int.reduceEq, Int.reduceNeg, Int.reduceAdd, Int.reduceToNat, Int.reduceNe, Nat.reduceSub, Int.reducePow, Int.reduceMul, vb0, vb1, vb2, vb3, vb4, vb5, vb6, vb7, f_wire_GetVarint, b_wire_GetVarint_15, SC.scp, X_scope, jump_ret, hp, h2, gvD]
theorem getVarint_out (b : List UInt8) (a : Int) (hb : b.length ≤ 1048576) (ha : a < 0 ∨ b.length < a) : C (M q) 39 [.d (.slice 1 (bytesD b)), .d (.int .i64 a)] = some (.tup [.int .u64 0, .int .i64 0, .int .i64 18]) := by
  rw [c_fn (sf := f_wire_GetVarint) rfl rfl ⟨rfl, rfl⟩]
  have hp := place_spec (q := q) b a hb
  have e : decide ((0 : Int) ≤ a ∧ (a : Int) ≤ b.length) = false := by simp; omega
  rw [e] at hp
  simp -implicitDefEqProofs (maxSteps := 1000000) (disch := omega) only [↓Int.reduceLT, ↓Int.reduceLE, ↓Int.reduceEq, ↓Nat.reduceEqDiff, Nat.reduceBEq, ↓reduceIte, St.toRS, restrict, initEnv, plainArgs, reduceCtorEq, Nat.reduceEqDiff, Nat.reduceAdd, Nat.reduceMul, Int.reduceLT, Int.reduceLE, Int.reduceEq, Int.reduceNeg, Int.reduceAdd, Int.reduceToNat, Int.reduceNe, Nat.reduceSub, Int.reducePow, Int.reduceMul, vb0, vb1, vb2, vb3, vb4, vb5, vb6, vb7, f_wire_GetVarint, b_wire_GetVarint_15, SC.scp, X_scope, jump_ret, hp]

/-! ### The reference's -/
def rgv_st (b : List UInt8) (a k n : Nat) : St := { env := [(0, .d (.slice 1 (bytesD b))), (1, .d (.int .i64 a)), (7, .d (.int .u64 n)), (8, .d (.int .i64 k))], bx := [] }
theorem rgv_loop (b : List UInt8) (a : Nat) (hb : b.length ≤ 1048576) (ha : a ≤ b.length) : ∀ (f k n : Nat), k + (f + 1) = 10 → n < 18446744073709551616 →
    X (M q) (.loop l_ref1_GetVarint_0) (rgv_st b a k n) = some (.ret, gvO (gvF b a (f + 1) k n)) := by
  have hlen := bytesD_length (s := b)
  intro f
  induction f with
  | zero =>
    intro k n hk hn
    obtain rfl : k = 9 := by omega
    refine loop_exit ?_ (by simp)
    rcases Nat.lt_or_ge (a + 9) b.length with hlt | hge
    · have hg : (bytesD b)[a + 9]? = some (.int .u8 ((b[a + 9]).toNat : Int)) := by rw [bytesD_get, List.getElem?_eq_getElem hlt]; rfl
      have hc := (b[a + 9]).toNat_lt
      have hgv : b[a + 9]? = some b[a + 9] := List.getElem?_eq_getElem hlt
      by_cases h9 : 1 < b[a + 9].toNat
      · have e : gvF b a 1 9 n = (0, 0, 4) := by simp only [gvF, hgv]; rw [if_pos ⟨trivial, h9⟩]
        rw [e]
        generalize (b[a + 9]).toNat = c at *
        simp -implicitDefEqProofs (maxSteps := 1000000) (disch := omega) only [↓Int.reduceLT, ↓Int.reduceLE, ↓Int.reduceEq, ↓Nat.reduceEqDiff, Nat.reduceBEq, ↓reduceIte, St.toRS, restrict, initEnv, plainArgs, reduceCtorEq, Nat.reduceEqDiff, Nat.reduceAdd, Nat.reduceMul, Int.reduceLT, Int.reduceLE, Int.reduceEq, Int.reduceNeg, Int.reduceAdd, Int.reduceToNat, Int.reduceNe, Nat.reduceSub, Int.reducePow, Int.reduceMul, vb0, vb1, vb2, vb3, vb4, vb5, vb6, vb7, l_ref1_GetVarint_0, rgv_st, gvO, hg, hlen]
      · have p := part_lt hc (k := 9) (by omega) (fun h => h9 h.2)
        have w2 := or_u64 hn p
        have e : gvF b a 1 9 n = (n ||| b[a + 9].toNat % 128 * 2 ^ (7 * 9), a + 9 + 1, 0) := by simp only [gvF, hgv]; rw [if_neg (fun h => h9 h.2), if_pos (by omega)]
        rw [e]
        have w2 : bitsD .or .u64 (n : Int) ((b[a + 9].toNat % 128 * 9223372036854775808 : Nat) : Int) = ((n ||| b[a + 9].toNat % 128 * 2 ^ (7 * 9) : Nat) : Int) := w2
        have w3 : ((b[a + 9].toNat : Nat) : Int).tmod 128 = ((b[a + 9].toNat % 128 : Nat) : Int) := tmod_nat
        clear e
        generalize (b[a + 9]).toNat = c at *
        generalize n ||| c % 128 * 2 ^ (7 * 9) = m at *
        simp -implicitDefEqProofs (maxSteps := 1000000) (disch := omega) only [↓Int.reduceLT, ↓Int.reduceLE, ↓Int.reduceEq, ↓Nat.reduceEqDiff, Nat.reduceBEq, ↓reduceIte, St.toRS, restrict, initEnv, plainArgs, reduceCtorEq, Nat.reduceEqDiff, Nat.reduceAdd, Nat.reduceMul, Int.reduceLT, Int.reduceLE, Int.reduceEq, Int.reduceNeg, Int.reduceAdd, Int.reduceToNat, Int.reduceNe, Nat.reduceSub, Int.reducePow, Int.reduceMul, vb0, vb1, vb2, vb3, vb4, vb5, vb6, vb7, l_ref1_GetVarint_0, rgv_st, gvO, hg, hlen, w2, w3]
    · have hgv : b[a + 9]? = none := List.getElem?_eq_none hge
      have e : gvF b a 1 9 n = (0, 0, 3) := by simp only [gvF, hgv]
      rw [e]
      simp -implicitDefEqProofs (maxSteps := 1000000) (disch := omega) only [↓Int.reduceLT, ↓Int.reduceLE, ↓Int.reduceEq, ↓Nat.reduceEqDiff, Nat.reduceBEq, ↓reduceIte, St.toRS, restrict, initEnv, plainArgs, reduceCtorEq, Nat.reduceEqDiff, Nat.reduceAdd, Nat.reduceMul, Int.reduceLT, Int.reduceLE, Int.reduceEq, Int.reduceNeg, Int.reduceAdd, Int.reduceToNat, Int.reduceNe, Nat.reduceSub, Int.reducePow, Int.reduceMul, vb0, vb1, vb2, vb3, vb4, vb5, vb6, vb7, l_ref1_GetVarint_0, rgv_st, gvO, hlen]
  | succ f ih =>
    intro k n hk hn
    rcases Nat.lt_or_ge (a + k) b.length with hlt | hge
    · have hg : (bytesD b)[a + k]? = some (.int .u8 ((b[a + k]).toNat : Int)) := by rw [bytesD_get, List.getElem?_eq_getElem hlt]; rfl
      have hc := (b[a + k]).toNat_lt
      have hgv : b[a + k]? = some b[a + k] := List.getElem?_eq_getElem hlt
      have h9 : ¬ (k = 9 ∧ 1 < b[a + k].toNat) := by omega
      have p := part_lt hc (k := k) (by omega) h9
      have w1 : IntKind.u64.wrap ((b[a + k].toNat % 128 * 2 ^ (7 * k) : Nat) : Int) = ((b[a + k].toNat % 128 * 2 ^ (7 * k) : Nat) : Int) := wrap_u64_nat p
      have w2 := or_u64 hn p
      have w3 : ((b[a + k].toNat : Nat) : Int).tmod 128 = ((b[a + k].toNat % 128 : Nat) : Int) := tmod_nat
      have w4 := sh_7k (k := k) (by omega)
      have w5 := mul_pow (b[a + k].toNat % 128) (7 * k)
      have hm := or_lt hn p
      have step : gvF b a (f + 1 + 1) k n = if b[a + k].toNat < 128 then (n ||| b[a + k].toNat % 128 * 2 ^ (7 * k), a + k + 1, 0) else gvF b a (f + 1) (k + 1) (n ||| b[a + k].toNat % 128 * 2 ^ (7 * k)) := by
        rw [gvF]; simp only [hgv]; rw [if_neg h9]
      rw [step]
      by_cases h128 : b[a + k].toNat < 128
      · rw [if_pos h128]
        refine loop_exit ?_ (by simp)
        clear step h9
        generalize (b[a + k]).toNat = c at *
        generalize c % 128 * 2 ^ (7 * k) = p' at *
        generalize n ||| p' = m at *
        simp -implicitDefEqProofs (maxSteps := 1000000) (disch := omega) only [↓Int.reduceLT, ↓Int.reduceLE, ↓Int.reduceEq, ↓Nat.reduceEqDiff, Nat.reduceBEq, ↓reduceIte, St.toRS, restrict, initEnv, plainArgs, reduceCtorEq, Nat.reduceEqDiff, Nat.reduceAdd, Nat.reduceMul, Int.reduceLT, Int.reduceLE, Int.reduceEq, Int.reduceNeg, Int.reduceAdd, Int.reduceToNat, Int.reduceNe, Nat.reduceSub, Int.reducePow, Int.reduceMul, vb0, vb1, vb2, vb3, vb4, vb5, vb6, vb7, l_ref1_GetVarint_0, rgv_st, gvO, hg, hlen, up_7i, w1, w2, w3, w4, w5]
      · rw [if_neg h128]
        have hr : X (M q) l_ref1_GetVarint_0 (rgv_st b a k n) = some (.norm, rgv_st b a (k + 1) (n ||| b[a + k].toNat % 128 * 2 ^ (7 * k))) := by
          clear step h9
          generalize (b[a + k]).toNat = c at *
          generalize c % 128 * 2 ^ (7 * k) = p' at *
          generalize n ||| p' = m at *
          simp -implicitDefEqProofs (maxSteps := 1000000) (disch := omega) only [↓Int.reduceLT, ↓Int.reduceLE, ↓Int.reduceEq, ↓Nat.reduceEqDiff, Nat.reduceBEq, ↓reduceIte, St.toRS, restrict, initEnv, plainArgs, reduceCtorEq, Nat.reduceEqDiff, Nat.reduceAdd, Nat.reduceMul, Int.reduceLT, Int.reduceLE, Int.reduceEq, Int.reduceNeg, Int.reduceAdd, Int.reduceToNat, Int.reduceNe, Nat.reduceSub, Int.reducePow, Int.reduceMul, vb0, vb1, vb2, vb3, vb4, vb5, vb6, vb7, l_ref1_GetVarint_0, rgv_st, gvO, hg, hlen, up_7i, w1, w2, w3, w4, w5]
        rw [X_loop, hr]
        simp only [andThen]
        exact ih (k + 1) _ (by omega) hm
    · have hgv : b[a + k]? = none := List.getElem?_eq_none hge
      have e : gvF b a (f + 1 + 1) k n = (0, 0, 3) := by rw [gvF]; simp only [hgv]
      rw [e]
      refine loop_exit ?_ (by simp)
      simp -implicitDefEqProofs (maxSteps := 1000000) (disch := omega) only [↓Int.reduceLT, ↓Int.reduceLE, ↓Int.reduceEq, ↓Nat.reduceEqDiff, Nat.reduceBEq, ↓reduceIte, St.toRS, restrict, initEnv, plainArgs, reduceCtorEq, Nat.reduceEqDiff, Nat.reduceAdd, Nat.reduceMul, Int.reduceLT, Int.reduceLE, Int.reduceEq, Int.reduceNeg, Int.reduceAdd, Int.reduceToNat, Int.reduceNe, Nat.reduceSub, Int.reducePow, Int.reduceMul, vb0, vb1, vb2, vb3, vb4, vb5, vb6, vb7, l_ref1_GetVarint_0, rgv_st, gvO, hlen]
theorem rgetVarint_spec (b : List UInt8) (a : Nat) (hb : b.length ≤ 1048576) (ha : a ≤ b.length) : C (M q) 47 [.d (.slice 1 (bytesD b)), .d (.int .i64 a)] = some (gvD (gvF b a 10 0 0)) := by
  rw [c_fn (sf := f_ref1_GetVarint) rfl rfl ⟨rfl, rfl⟩]
  have hl := rgv_loop (q := q) b a hb ha 9 0 0 (by omega) (by omega)
  simp only [rgv_st, Int.cast_ofNat_Int] at hl
  generalize gvF b a (9 + 1) 0 0 = r at *
  simp only [gvO] at hl
  simp -implicitDefEqProofs (maxSteps := 1000000) (disch := omega) only [↓Int.reduceLT, ↓Int.reduceLE, ↓Int.reduceEq, ↓Nat.reduceEqDiff, Nat.reduceBEq, ↓reduceIte, St.toRS, restrict, initEnv, plainArgs, reduceCtorEq, Nat.reduceEqDiff, Nat.reduceAdd, Nat.reduceMul, Int.reduceLT, Int.reduceLE, Int.reduceEq, Int.reduceNeg, Int.reduceAdd, Int.reduceToNat, Int.reduceNe, Nat.reduceSub, Int.reducePow, Int.reduceMul, vb0, vb1, vb2, vb3, vb4, vb5, vb6, vb7, f_ref1_GetVarint, hl, gvD]
end Go.Proofs.YtedncpnkbpbchaaDoor
