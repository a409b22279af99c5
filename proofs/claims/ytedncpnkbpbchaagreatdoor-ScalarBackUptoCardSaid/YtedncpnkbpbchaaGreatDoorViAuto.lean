/-
  The verified interpreter: facts about whole numbers, each to be used where its condition is shown by arithmetic.
-/
import Derived.Test.YtedncpnkbpbchaaGreatDoorViPrim
set_option linter.unusedVariables false
set_option linter.unusedSimpArgs false
namespace Go.Vi

theorem lt_T {a b : Int} (h : a < b) : (a < b) = True := eq_true h
theorem lt_F {a b : Int} (h : b ≤ a) : (a < b) = False := eq_false (by omega)
theorem le_T {a b : Int} (h : a ≤ b) : (a ≤ b) = True := eq_true h
theorem le_F {a b : Int} (h : b < a) : (a ≤ b) = False := eq_false (by omega)
theorem eq_T {a b : Int} (h : a = b) : (a = b) = True := eq_true h
theorem eq_F {a b : Int} (h : a ≠ b) : (a = b) = False := eq_false h
theorem nlt_T {a b : Nat} (h : a < b) : (a < b) = True := eq_true h
theorem nlt_F {a b : Nat} (h : b ≤ a) : (a < b) = False := eq_false (by omega)
theorem nle_T {a b : Nat} (h : a ≤ b) : (a ≤ b) = True := eq_true h
theorem nle_F {a b : Nat} (h : b < a) : (a ≤ b) = False := eq_false (by omega)
theorem neq_T {a b : Nat} (h : a = b) : (a = b) = True := eq_true h
theorem neq_F {a b : Nat} (h : a ≠ b) : (a = b) = False := eq_false h
/-- Sums of counts are counts. -/
theorem up_add (a b : Nat) : (a : Int) + (b : Int) = ((a + b : Nat) : Int) := by omega
theorem up_add1 (a : Nat) : (a : Int) + 1 = ((a + 1 : Nat) : Int) := by omega
theorem up_add2 (a : Nat) : (a : Int) + 2 = ((a + 2 : Nat) : Int) := by omega
theorem up_add3 (a : Nat) : (a : Int) + 3 = ((a + 3 : Nat) : Int) := by omega
theorem up_add4 (a : Nat) : (a : Int) + 4 = ((a + 4 : Nat) : Int) := by omega
theorem up_1add (a : Nat) : 1 + (a : Int) = ((1 + a : Nat) : Int) := by omega
theorem up_2add (a : Nat) : 2 + (a : Int) = ((2 + a : Nat) : Int) := by omega
theorem up_addL (a n : Nat) : (a : Int) + (no_index (OfNat.ofNat n) : Int) = ((a + OfNat.ofNat n : Nat) : Int) := rfl
theorem up_mulL (a n : Nat) : (a : Int) * (no_index (OfNat.ofNat n) : Int) = ((a * OfNat.ofNat n : Nat) : Int) := rfl
theorem up_sub {a b : Nat} (h : b ≤ a) : (a : Int) - (b : Int) = ((a - b : Nat) : Int) := by omega
theorem up_sub1 {a : Nat} (h : 1 ≤ a) : (a : Int) - 1 = ((a - 1 : Nat) : Int) := by omega
theorem wrap_i64' {x : Int} (h : -9223372036854775808 ≤ x ∧ x ≤ 9223372036854775807) : IntKind.i64.wrap x = x := wrap_i64 h.1 h.2
theorem wrap_i32' {x : Int} (h : -2147483648 ≤ x ∧ x ≤ 2147483647) : IntKind.i32.wrap x = x := wrap_i32 h.1 h.2
theorem wrap_u64' {x : Int} (h : 0 ≤ x ∧ x ≤ 18446744073709551615) : IntKind.u64.wrap x = x := wrap_u64 h.1 h.2
theorem wrap_u32' {x : Int} (h : 0 ≤ x ∧ x ≤ 4294967295) : IntKind.u32.wrap x = x := wrap_u32 h.1 h.2
theorem wrap_u8' {x : Int} (h : 0 ≤ x ∧ x ≤ 255) : IntKind.u8.wrap x = x := wrap_u8 h.1 h.2

theorem ofInt_nat {k : Nat} (a : Nat) (h : a < 2 ^ k) : (BitVec.ofInt k (a : Int)).toNat = a := by
  rw [BitVec.toNat_ofInt]
  rw [show ((a : Int) % ((2 ^ k : Nat) : Int)) = ((a % 2 ^ k : Nat) : Int) by omega, Int.toNat_natCast, Nat.mod_eq_of_lt h]
theorem wrap_u64_nat {a : Nat} (h : a < 18446744073709551616) : IntKind.u64.wrap (a : Int) = a := wrap_u64 (by omega) (by omega)
theorem wrap_u8_nat {a : Nat} (h : a < 256) : IntKind.u8.wrap (a : Int) = a := wrap_u8 (by omega) (by omega)
theorem or_u64 {a b : Nat} (ha : a < 18446744073709551616) (hb : b < 18446744073709551616) : bitsD .or .u64 (a : Int) (b : Int) = ((a ||| b : Nat) : Int) := by
  have h : a ||| b < 2 ^ 64 := Nat.or_lt_two_pow (by omega) (by omega)
  show IntKind.u64.wrap ((BitVec.ofInt 64 (a : Int) ||| BitVec.ofInt 64 (b : Int)).toNat : Int) = _
  rw [BitVec.toNat_or, ofInt_nat a (by omega), ofInt_nat b (by omega), wrap_u64_nat (by omega)]
theorem and_u64 {a b : Nat} (ha : a < 18446744073709551616) (hb : b < 18446744073709551616) : bitsD .and .u64 (a : Int) (b : Int) = ((a &&& b : Nat) : Int) := by
  have h : a &&& b < 2 ^ 64 := Nat.lt_of_le_of_lt Nat.and_le_left (by omega)
  show IntKind.u64.wrap ((BitVec.ofInt 64 (a : Int) &&& BitVec.ofInt 64 (b : Int)).toNat : Int) = _
  rw [BitVec.toNat_and, ofInt_nat a (by omega), ofInt_nat b (by omega), wrap_u64_nat (by omega)]
theorem xor_u64 {a b : Nat} (ha : a < 18446744073709551616) (hb : b < 18446744073709551616) : bitsD .xor .u64 (a : Int) (b : Int) = ((a ^^^ b : Nat) : Int) := by
  have h : a ^^^ b < 2 ^ 64 := Nat.xor_lt_two_pow (by omega) (by omega)
  show IntKind.u64.wrap ((BitVec.ofInt 64 (a : Int) ^^^ BitVec.ofInt 64 (b : Int)).toNat : Int) = _
  rw [BitVec.toNat_xor, ofInt_nat a (by omega), ofInt_nat b (by omega), wrap_u64_nat (by omega)]

/-! ### Bits of words -/
theorem bv_wrap (b : BitVec 64) : BitVec.ofInt 64 (IntKind.u64.wrap (b.toNat : Int)) = b := by
  rw [wrap_u64_nat (by have := b.isLt; omega)]
  simp
theorem bv_or (x y : Int) : BitVec.ofInt 64 (bitsD .or .u64 x y) = BitVec.ofInt 64 x ||| BitVec.ofInt 64 y := bv_wrap _
theorem bv_and (x y : Int) : BitVec.ofInt 64 (bitsD .and .u64 x y) = BitVec.ofInt 64 x &&& BitVec.ofInt 64 y := bv_wrap _
/-- None of the eight bytes' highest bits is there. -/
def hi0 (x : Int) : Prop := bitsD .and .u64 x 9259542123273814144 = 0
instance (x : Int) : Decidable (hi0 x) := by unfold hi0; infer_instance
theorem hi0_bit {x : Int} (h : hi0 x) (j : Nat) (hj : j < 8) : (BitVec.ofInt 64 x).getLsbD (8 * j + 7) = false := by
  have h1 := bv_and x 9259542123273814144
  rw [h] at h1
  have h2 := congrArg (fun b : BitVec 64 => b.getLsbD (8 * j + 7)) h1
  simp only [BitVec.getLsbD_and] at h2
  have h3 : (BitVec.ofInt 64 9259542123273814144).getLsbD (8 * j + 7) = true := by
    have : ∀ j : Fin 8, (BitVec.ofInt 64 9259542123273814144).getLsbD (8 * j.val + 7) = true := by decide +kernel
    exact this ⟨j, hj⟩
  have h4 : (BitVec.ofInt 64 0).getLsbD (8 * j + 7) = false := by simp
  rw [h3, h4] at h2
  simpa using h2.symm
theorem or_bit {x y : Int} {k : Nat} (h : (BitVec.ofInt 64 (bitsD .or .u64 x y)).getLsbD k = false) : (BitVec.ofInt 64 x).getLsbD k = false ∧ (BitVec.ofInt 64 y).getLsbD k = false := by
  rw [bv_or, BitVec.getLsbD_or] at h
  simpa using h
theorem byte_bit {c : UInt8} {j : Nat} (hj : j < 8) (h : (BitVec.ofInt 64 ((c.toNat * 2 ^ (8 * j) : Nat) : Int)).getLsbD (8 * j + 7) = false) : c.toNat < 128 := by
  have e : BitVec.ofInt 64 ((c.toNat * 2 ^ (8 * j) : Nat) : Int) = BitVec.ofNat 64 (c.toNat * 2 ^ (8 * j)) := by
    generalize c.toNat * 2 ^ (8 * j) = m
    simp
  rw [e, BitVec.getLsbD_ofNat, Nat.mul_comm c.toNat, Nat.testBit_two_pow_mul] at h
  have h1 : decide (8 * j + 7 < 64) = true := by simp; omega
  have h2 : decide (8 * j + 7 ≥ 8 * j) = true := by simp
  rw [h1, h2, show 8 * j + 7 - 8 * j = 7 by omega] at h
  simp only [Bool.true_and] at h
  have : ∀ n : Fin 256, n.val.testBit 7 = false → n.val < 128 := by decide +kernel
  exact this ⟨c.toNat, c.toNat_lt⟩ h

section
variable {gl : Nat → Option D} {cf : Nat → List V → Option V} {dst : Option Nat} {rs : RS}
theorem s_call1 {f : Nat} {a : Opd} : step1 gl cf dst (.call f [(false, a)]) rs = callR dst rs cf f (dArgs (evDs gl rs.env [a])) := s_call rfl
theorem s_call2 {f : Nat} {a b : Opd} : step1 gl cf dst (.call f [(false, a), (false, b)]) rs = callR dst rs cf f (dArgs (evDs gl rs.env [a, b])) := s_call rfl
theorem s_call3 {f : Nat} {a b c : Opd} : step1 gl cf dst (.call f [(false, a), (false, b), (false, c)]) rs = callR dst rs cf f (dArgs (evDs gl rs.env [a, b, c])) := s_call rfl
theorem s_call4 {f : Nat} {a b c d : Opd} : step1 gl cf dst (.call f [(false, a), (false, b), (false, c), (false, d)]) rs = callR dst rs cf f (dArgs (evDs gl rs.env [a, b, c, d])) := s_call rfl
theorem s_call5 {f : Nat} {a b c d e : Opd} : step1 gl cf dst (.call f [(false, a), (false, b), (false, c), (false, d), (false, e)]) rs = callR dst rs cf f (dArgs (evDs gl rs.env [a, b, c, d, e])) := s_call rfl
/-- A guarded step, opened once its guard is known. -/
def guardW (gl : Nat → Option D) (cf : Nat → List V → Option V) (dst : Option Nat) (want : Bool) (op : SOp) (rs : RS) : Option V → Option RS
  | some (.d (.bool b)) => if b = want then step1 gl cf dst op rs else some { env := put dst (some .un) rs.env, bx := rs.bx }
  | some .un => some { env := put dst (some .un) rs.env, bx := rs.bx }
  | _ => none
theorem step_guard {op : SOp} {g : Nat} {want : Bool} : step gl cf ⟨dst, some (g, want), op⟩ rs = guardW gl cf dst want op rs (rs.env g) := by
  rw [step_some]
  cases rs.env g with
  | none => rfl
  | some v => cases v <;> rfl
theorem e_guardW {op : SOp} {want b : Bool} : guardW gl cf dst want op rs (some (.d (.bool b))) = if b = want then step1 gl cf dst op rs else some { env := put dst (some .un) rs.env, bx := rs.bx } := rfl
theorem e_guardWU {op : SOp} {want : Bool} : guardW gl cf dst want op rs (some .un) = some { env := put dst (some .un) rs.env, bx := rs.bx } := rfl
end
end Go.Vi
