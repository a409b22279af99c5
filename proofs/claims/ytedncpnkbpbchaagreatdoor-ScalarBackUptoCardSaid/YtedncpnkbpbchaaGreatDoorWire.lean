/-
  Numbers as digits by base 128: what the program and the reference put, over data.
  Sizes, fixed words, chunks and signs: what the program and the reference put, over data.
  Signs at a number's end, and numbers read back from digits by base 128: what the program and the reference answer, over data.
  Chunks and fixed words read back: what the program and the reference answer, over data.
-/
import Derived.Test.YtedncpnkbpbchaaGreatDoorAwake
import Derived.Test.YtedncpnkbpbchaaGreatDoorViOwn
set_option linter.unusedVariables false
set_option linter.unusedSimpArgs false
set_option maxRecDepth 100000
set_option maxHeartbeats 8000000
namespace Go.Proofs.YtedncpnkbpbchaaGreatDoor
open Go.Vi


/-- The digits ahead of the last one, and what is left for it. -/
def vpre : Nat → Nat → List UInt8 × Nat
  | 0, n => ([], n)
  | f + 1, n => if n < 128 then ([], n) else (UInt8.ofNat (n % 128 + 128) :: (vpre f (n / 128)).1, (vpre f (n / 128)).2)
theorem vpre_len : ∀ f n, (vpre f n).1.length ≤ f
  | 0, _ => Nat.le_refl 0
  | f + 1, n => by
    have := vpre_len f (n / 128)
    simp only [vpre]; split
    · simp
    · simp; omega
theorem vpre_last : ∀ f n, n < 128 ^ (f + 1) → (vpre f n).2 < 128
  | 0, n, h => by simpa [vpre] using h
  | f + 1, n, h => by
    simp only [vpre]; split
    · assumption
    · refine vpre_last f (n / 128) ?_
      rw [Nat.pow_succ] at h
      exact Nat.div_lt_of_lt_mul (by rw [Nat.mul_comm]; exact h)
/-- A number's digits. -/
def vb (n : Nat) : List UInt8 := (vpre 9 n).1 ++ [UInt8.ofNat (vpre 9 n).2]
theorem vb_len (n : Nat) : (vb n).length ≤ 10 := by
  have := vpre_len 9 n
  simp only [vb, List.length_append, List.length_cons, List.length_nil]; omega

theorem v_step (n : Nat) (h : 128 ≤ n) (hn : n < 18446744073709551616) (o : List UInt8) (ho : o.length < 140737488355328) :
    X M l_wire_varint_1 { env := [(0, .own 1 (bytesD o)), (1, .d (.int .u64 n))], bx := [] } = some (.norm, { env := [(0, .own 1 (bytesD (o ++ [UInt8.ofNat (n % 128 + 128)]))), (1, .d (.int .u64 (n / 128 : Nat)))], bx := [] }) := by
  have w := wrap_byte (n := n)
  have w2 := or128 (n := n)
  have w3 : (n : Int).fdiv 128 = ((n / 128 : Nat) : Int) := fdiv_nat
  have hb : bytesD (o ++ [UInt8.ofNat (n % 128 + 128)]) = bytesD o ++ [.int .u8 ((n % 128 + 128 : Nat) : Int)] := by
    rw [bytesD_append, bytesD_cons, bytesD_nil, byteD_ofNat (by omega)]
  have hlen := bytesD_length (s := o)
  rw [hb]
  simp -implicitDefEqProofs (maxSteps := 1000000) (disch := omega) only [↓Int.reduceLT, ↓Int.reduceLE, ↓Int.reduceEq, ↓Nat.reduceEqDiff, Nat.reduceBEq, ↓reduceIte, St.toRS, restrict, initEnv, plainArgs, reduceCtorEq, Nat.reduceEqDiff, Nat.reduceAdd, Nat.reduceMul, Int.reduceLT, Int.reduceLE, Int.reduceEq, Int.reduceNeg, Int.reduceAdd, Int.reduceToNat, Int.reduceNe, Nat.reduceSub, Int.reducePow, Int.reduceMul, vb0, vb1, vb2, vb3, vb4, vb5, vb6, vb7, l_wire_varint_1, w, w2, w3, hlen]
theorem v_loop : ∀ (f n : Nat) (o : List UInt8), n < 128 ^ (f + 1) → n < 18446744073709551616 → o.length + f + 1 < 140737488355328 →
    X M (.loop l_wire_varint_1) { env := [(0, .own 1 (bytesD o)), (1, .d (.int .u64 n))], bx := [] } = some (.exit 0, { env := [(0, .own 1 (bytesD (o ++ (vpre f n).1))), (1, .d (.int .u64 ((vpre f n).2 : Nat))), (6, .d (.bool false))], bx := [] }) := by
  have stop : ∀ (n : Nat) (o : List UInt8), n < 128 → X M (.loop l_wire_varint_1) { env := [(0, .own 1 (bytesD o)), (1, .d (.int .u64 n))], bx := [] } = some (.exit 0, { env := [(0, .own 1 (bytesD o)), (1, .d (.int .u64 n)), (6, .d (.bool false))], bx := [] }) := by
    intro n o h
    refine loop_exit ?_ (by simp)
    simp -implicitDefEqProofs (maxSteps := 1000000) (disch := omega) only [↓Int.reduceLT, ↓Int.reduceLE, ↓Int.reduceEq, ↓Nat.reduceEqDiff, Nat.reduceBEq, ↓reduceIte, St.toRS, restrict, initEnv, plainArgs, reduceCtorEq, Nat.reduceEqDiff, Nat.reduceAdd, Nat.reduceMul, Int.reduceLT, Int.reduceLE, Int.reduceEq, Int.reduceNeg, Int.reduceAdd, Int.reduceToNat, Int.reduceNe, Nat.reduceSub, Int.reducePow, Int.reduceMul, vb0, vb1, vb2, vb3, vb4, vb5, vb6, vb7, l_wire_varint_1]
  intro f
  induction f with
  | zero =>
    intro n o h1 h2 h3
    rw [stop n o (by simpa using h1)]
    simp [vpre]
  | succ f ih =>
    intro n o h1 h2 h3
    by_cases h : n < 128
    · rw [stop n o h]
      simp [vpre, h]
    · rw [X_loop, v_step n (by omega) h2 o (by omega)]
      simp only [andThen]
      rw [ih (n / 128) (o ++ [UInt8.ofNat (n % 128 + 128)]) (by
        rw [Nat.pow_succ] at h1
        exact Nat.div_lt_of_lt_mul (by rw [Nat.mul_comm]; exact h1)) (by omega) (by simp; omega)]
      simp only [vpre, if_neg h, List.append_assoc, List.singleton_append]
theorem varint_spec (n : Nat) (hn : n < 18446744073709551616) (o : List UInt8) (ho : o.length + 10 < 140737488355328) :
    C M 51 [.own 1 (bytesD o), .d (.int .u64 n)] = some (.own 1 (bytesD (o ++ vb n))) := by
  rw [c_fn (sf := f_wire_varint) rfl rfl ⟨rfl, rfl⟩]
  have hl := v_loop 9 n o (by omega) hn (by omega)
  have h1 := vpre_last 9 n (by omega)
  have h2 := vpre_len 9 n
  have hlen := bytesD_length (s := o ++ (vpre 9 n).1)
  simp only [List.length_append] at hlen
  have hb : bytesD (o ++ vb n) = bytesD (o ++ (vpre 9 n).1) ++ [.int .u8 (((vpre 9 n).2 : Nat) : Int)] := by
    rw [vb, ← List.append_assoc, bytesD_append, bytesD_cons, bytesD_nil, byteD_ofNat (by omega)]
  rw [hb]
  generalize (vpre 9 n).2 = r at *
  generalize bytesD (o ++ (vpre 9 n).1) = xs at *
  simp -implicitDefEqProofs (maxSteps := 1000000) (disch := omega) only [↓Int.reduceLT, ↓Int.reduceLE, ↓Int.reduceEq, ↓Nat.reduceEqDiff, Nat.reduceBEq, ↓reduceIte, St.toRS, restrict, initEnv, plainArgs, reduceCtorEq, Nat.reduceEqDiff, Nat.reduceAdd, Nat.reduceMul, Int.reduceLT, Int.reduceLE, Int.reduceEq, Int.reduceNeg, Int.reduceAdd, Int.reduceToNat, Int.reduceNe, Nat.reduceSub, Int.reducePow, Int.reduceMul, vb0, vb1, vb2, vb3, vb4, vb5, vb6, vb7, f_wire_varint, hl, hlen]

/-! ### The reference's -/
end Go.Proofs.YtedncpnkbpbchaaGreatDoor
namespace Go.Proofs.YtedncpnkbpbchaaGreatDoor
open Go.Vi


def lenTab : List UInt8 := [0, 1, 2, 2, 3, 3, 3, 3, 4, 4, 4, 4, 4, 4, 4, 4, 5, 5, 5, 5, 5, 5, 5, 5, 5, 5, 5, 5, 5, 5, 5, 5, 6, 6, 6, 6, 6, 6, 6, 6, 6, 6, 6, 6, 6, 6, 6, 6, 6, 6, 6, 6, 6, 6, 6, 6, 6, 6, 6, 6, 6, 6, 6, 6, 7, 7, 7, 7, 7, 7, 7, 7, 7, 7, 7, 7, 7, 7, 7, 7, 7, 7, 7, 7, 7, 7, 7, 7, 7, 7, 7, 7, 7, 7, 7, 7, 7, 7, 7, 7, 7, 7, 7, 7, 7, 7, 7, 7, 7, 7, 7, 7, 7, 7, 7, 7, 7, 7, 7, 7, 7, 7, 7, 7, 7, 7, 7, 7, 8, 8, 8, 8, 8, 8, 8, 8, 8, 8, 8, 8, 8, 8, 8, 8, 8, 8, 8, 8, 8, 8, 8, 8, 8, 8, 8, 8, 8, 8, 8, 8, 8, 8, 8, 8, 8, 8, 8, 8, 8, 8, 8, 8, 8, 8, 8, 8, 8, 8, 8, 8, 8, 8, 8, 8, 8, 8, 8, 8, 8, 8, 8, 8, 8, 8, 8, 8, 8, 8, 8, 8, 8, 8, 8, 8, 8, 8, 8, 8, 8, 8, 8, 8, 8, 8, 8, 8, 8, 8, 8, 8, 8, 8, 8, 8, 8, 8, 8, 8, 8, 8, 8, 8, 8, 8, 8, 8, 8, 8, 8, 8, 8, 8, 8, 8, 8, 8, 8, 8, 8, 8, 8, 8, 8, 8, 8, 8]
theorem lenTab_ok : ∀ m : Fin 256, ∃ c, lenTab[m.val]? = some c ∧ c.toNat ≤ 8 := by decide +kernel
theorem len64_spec (n : Nat) (hn : n < 18446744073709551616) : ∃ L : Nat, C M 70 [.d (.int .u64 n)] = some (.d (.int .i64 L)) ∧ L ≤ 64 := by
  rw [c_fn (sf := f_math_bits_Len64) rfl rfl ⟨rfl, rfl⟩]
  have e32 : ∀ n : Nat, (n : Int).fdiv 4294967296 = ((n / 4294967296 : Nat) : Int) := fun n => fdiv_nat
  have e16 : ∀ n : Nat, (n : Int).fdiv 65536 = ((n / 65536 : Nat) : Int) := fun n => fdiv_nat
  have e8 : ∀ n : Nat, (n : Int).fdiv 256 = ((n / 256 : Nat) : Int) := fun n => fdiv_nat
  have key : ∀ m : Nat, m < 256 → ∃ c, lenTab[m]? = some c ∧ c.toNat ≤ 8 := fun m h => lenTab_ok ⟨m, h⟩
  by_cases h1 : 4294967296 ≤ n
  · by_cases h2 : 65536 ≤ n / 4294967296
    · by_cases h3 : 256 ≤ n / 4294967296 / 65536
      · obtain ⟨c, hc, hl⟩ := key (n / 4294967296 / 65536 / 256) (by omega)
        refine ⟨32 + 16 + 8 + c.toNat, ?_, by omega⟩
        simp only [lenTab] at hc
        simp -implicitDefEqProofs (maxSteps := 1000000) (disch := omega) only [↓Int.reduceLT, ↓Int.reduceLE, ↓Int.reduceEq, ↓Nat.reduceEqDiff, Nat.reduceBEq, ↓reduceIte, St.toRS, restrict, initEnv, plainArgs, reduceCtorEq, Nat.reduceEqDiff, Nat.reduceAdd, Nat.reduceMul, Int.reduceLT, Int.reduceLE, Int.reduceEq, Int.reduceNeg, Int.reduceAdd, Int.reduceToNat, Int.reduceNe, Nat.reduceSub, Int.reducePow, Int.reduceMul, vb0, vb1, vb2, vb3, vb4, vb5, vb6, vb7, f_math_bits_Len64, e32, e16, e8, hc]
        rfl
      · obtain ⟨c, hc, hl⟩ := key (n / 4294967296 / 65536) (by omega)
        refine ⟨32 + 16 + c.toNat, ?_, by omega⟩
        simp only [lenTab] at hc
        simp -implicitDefEqProofs (maxSteps := 1000000) (disch := omega) only [↓Int.reduceLT, ↓Int.reduceLE, ↓Int.reduceEq, ↓Nat.reduceEqDiff, Nat.reduceBEq, ↓reduceIte, St.toRS, restrict, initEnv, plainArgs, reduceCtorEq, Nat.reduceEqDiff, Nat.reduceAdd, Nat.reduceMul, Int.reduceLT, Int.reduceLE, Int.reduceEq, Int.reduceNeg, Int.reduceAdd, Int.reduceToNat, Int.reduceNe, Nat.reduceSub, Int.reducePow, Int.reduceMul, vb0, vb1, vb2, vb3, vb4, vb5, vb6, vb7, f_math_bits_Len64, e32, e16, e8, hc]
        rfl
    · by_cases h3 : 256 ≤ n / 4294967296
      · obtain ⟨c, hc, hl⟩ := key (n / 4294967296 / 256) (by omega)
        refine ⟨32 + 8 + c.toNat, ?_, by omega⟩
        simp only [lenTab] at hc
        simp -implicitDefEqProofs (maxSteps := 1000000) (disch := omega) only [↓Int.reduceLT, ↓Int.reduceLE, ↓Int.reduceEq, ↓Nat.reduceEqDiff, Nat.reduceBEq, ↓reduceIte, St.toRS, restrict, initEnv, plainArgs, reduceCtorEq, Nat.reduceEqDiff, Nat.reduceAdd, Nat.reduceMul, Int.reduceLT, Int.reduceLE, Int.reduceEq, Int.reduceNeg, Int.reduceAdd, Int.reduceToNat, Int.reduceNe, Nat.reduceSub, Int.reducePow, Int.reduceMul, vb0, vb1, vb2, vb3, vb4, vb5, vb6, vb7, f_math_bits_Len64, e32, e16, e8, hc]
        rfl
      · obtain ⟨c, hc, hl⟩ := key (n / 4294967296) (by omega)
        refine ⟨32 + c.toNat, ?_, by omega⟩
        simp only [lenTab] at hc
        simp -implicitDefEqProofs (maxSteps := 1000000) (disch := omega) only [↓Int.reduceLT, ↓Int.reduceLE, ↓Int.reduceEq, ↓Nat.reduceEqDiff, Nat.reduceBEq, ↓reduceIte, St.toRS, restrict, initEnv, plainArgs, reduceCtorEq, Nat.reduceEqDiff, Nat.reduceAdd, Nat.reduceMul, Int.reduceLT, Int.reduceLE, Int.reduceEq, Int.reduceNeg, Int.reduceAdd, Int.reduceToNat, Int.reduceNe, Nat.reduceSub, Int.reducePow, Int.reduceMul, vb0, vb1, vb2, vb3, vb4, vb5, vb6, vb7, f_math_bits_Len64, e32, e16, e8, hc]
        rfl
  · by_cases h2 : 65536 ≤ n
    · by_cases h3 : 256 ≤ n / 65536
      · obtain ⟨c, hc, hl⟩ := key (n / 65536 / 256) (by omega)
        refine ⟨16 + 8 + c.toNat, ?_, by omega⟩
        simp only [lenTab] at hc
        simp -implicitDefEqProofs (maxSteps := 1000000) (disch := omega) only [↓Int.reduceLT, ↓Int.reduceLE, ↓Int.reduceEq, ↓Nat.reduceEqDiff, Nat.reduceBEq, ↓reduceIte, St.toRS, restrict, initEnv, plainArgs, reduceCtorEq, Nat.reduceEqDiff, Nat.reduceAdd, Nat.reduceMul, Int.reduceLT, Int.reduceLE, Int.reduceEq, Int.reduceNeg, Int.reduceAdd, Int.reduceToNat, Int.reduceNe, Nat.reduceSub, Int.reducePow, Int.reduceMul, vb0, vb1, vb2, vb3, vb4, vb5, vb6, vb7, f_math_bits_Len64, e32, e16, e8, hc]
        rfl
      · obtain ⟨c, hc, hl⟩ := key (n / 65536) (by omega)
        refine ⟨16 + c.toNat, ?_, by omega⟩
        simp only [lenTab] at hc
        simp -implicitDefEqProofs (maxSteps := 1000000) (disch := omega) only [↓Int.reduceLT, ↓Int.reduceLE, ↓Int.reduceEq, ↓Nat.reduceEqDiff, Nat.reduceBEq, ↓reduceIte, St.toRS, restrict, initEnv, plainArgs, reduceCtorEq, Nat.reduceEqDiff, Nat.reduceAdd, Nat.reduceMul, Int.reduceLT, Int.reduceLE, Int.reduceEq, Int.reduceNeg, Int.reduceAdd, Int.reduceToNat, Int.reduceNe, Nat.reduceSub, Int.reducePow, Int.reduceMul, vb0, vb1, vb2, vb3, vb4, vb5, vb6, vb7, f_math_bits_Len64, e32, e16, e8, hc]
        rfl
    · by_cases h3 : 256 ≤ n
      · obtain ⟨c, hc, hl⟩ := key (n / 256) (by omega)
        refine ⟨8 + c.toNat, ?_, by omega⟩
        simp only [lenTab] at hc
        simp -implicitDefEqProofs (maxSteps := 1000000) (disch := omega) only [↓Int.reduceLT, ↓Int.reduceLE, ↓Int.reduceEq, ↓Nat.reduceEqDiff, Nat.reduceBEq, ↓reduceIte, St.toRS, restrict, initEnv, plainArgs, reduceCtorEq, Nat.reduceEqDiff, Nat.reduceAdd, Nat.reduceMul, Int.reduceLT, Int.reduceLE, Int.reduceEq, Int.reduceNeg, Int.reduceAdd, Int.reduceToNat, Int.reduceNe, Nat.reduceSub, Int.reducePow, Int.reduceMul, vb0, vb1, vb2, vb3, vb4, vb5, vb6, vb7, f_math_bits_Len64, e32, e16, e8, hc]
        rfl
      · obtain ⟨c, hc, hl⟩ := key n (by omega)
        refine ⟨c.toNat, ?_, by omega⟩
        simp only [lenTab] at hc
        simp -implicitDefEqProofs (maxSteps := 1000000) (disch := omega) only [↓Int.reduceLT, ↓Int.reduceLE, ↓Int.reduceEq, ↓Nat.reduceEqDiff, Nat.reduceBEq, ↓reduceIte, St.toRS, restrict, initEnv, plainArgs, reduceCtorEq, Nat.reduceEqDiff, Nat.reduceAdd, Nat.reduceMul, Int.reduceLT, Int.reduceLE, Int.reduceEq, Int.reduceNeg, Int.reduceAdd, Int.reduceToNat, Int.reduceNe, Nat.reduceSub, Int.reducePow, Int.reduceMul, vb0, vb1, vb2, vb3, vb4, vb5, vb6, vb7, f_math_bits_Len64, e32, e16, e8, hc, Int.zero_add]
theorem size_spec (n : Nat) (hn : n < 18446744073709551616) : ∃ s : Nat, C M 52 [.d (.int .u64 n)] = some (.d (.int .i64 s)) ∧ s ≤ 10 := by
  obtain ⟨L, h1, h2⟩ := len64_spec n hn
  rw [c_fn (sf := f_wire_Size) rfl rfl ⟨rfl, rfl⟩]
  have e7 : ∀ n : Nat, (n : Int).tdiv 7 = ((n / 7 : Nat) : Int) := fun n => tdiv_nat
  by_cases h : 1 < L
  · refine ⟨(L + 7 - 1) / 7, ?_, by omega⟩
    simp -implicitDefEqProofs (maxSteps := 1000000) (disch := omega) only [↓Int.reduceLT, ↓Int.reduceLE, ↓Int.reduceEq, ↓Nat.reduceEqDiff, Nat.reduceBEq, ↓reduceIte, St.toRS, restrict, initEnv, plainArgs, reduceCtorEq, Nat.reduceEqDiff, Nat.reduceAdd, Nat.reduceMul, Int.reduceLT, Int.reduceLE, Int.reduceEq, Int.reduceNeg, Int.reduceAdd, Int.reduceToNat, Int.reduceNe, Nat.reduceSub, Int.reducePow, Int.reduceMul, vb0, vb1, vb2, vb3, vb4, vb5, vb6, vb7, f_wire_Size, h1, e7]
  · refine ⟨1, ?_, by omega⟩
    have e1 : IntKind.i64.wrap (((8 : Int) - 1).tdiv 7) = 1 := by decide
    simp -implicitDefEqProofs (maxSteps := 1000000) (disch := omega) only [↓Int.reduceLT, ↓Int.reduceLE, ↓Int.reduceEq, ↓Nat.reduceEqDiff, Nat.reduceBEq, ↓reduceIte, St.toRS, restrict, initEnv, plainArgs, reduceCtorEq, Nat.reduceEqDiff, Nat.reduceAdd, Nat.reduceMul, Int.reduceLT, Int.reduceLE, Int.reduceEq, Int.reduceNeg, Int.reduceAdd, Int.reduceToNat, Int.reduceNe, Nat.reduceSub, Int.reducePow, Int.reduceMul, vb0, vb1, vb2, vb3, vb4, vb5, vb6, vb7, f_wire_Size, h1, e7, e1]
theorem putVarint_spec (n : Nat) (hn : n < 18446744073709551616) : C M 26 [.d (.int .u64 n)] = some (.own 1 (bytesD (vb n))) := by
  obtain ⟨s, h1, h2⟩ := size_spec n hn
  have h3 := varint_spec n hn [] (by simp)
  simp only [List.nil_append, bytesD_nil] at h3
  rw [c_fn (sf := f_wire_PutVarint) rfl rfl ⟨rfl, rfl⟩]
  simp -implicitDefEqProofs (maxSteps := 1000000) (disch := omega) only [↓Int.reduceLT, ↓Int.reduceLE, ↓Int.reduceEq, ↓Nat.reduceEqDiff, Nat.reduceBEq, ↓reduceIte, St.toRS, restrict, initEnv, plainArgs, reduceCtorEq, Nat.reduceEqDiff, Nat.reduceAdd, Nat.reduceMul, Int.reduceLT, Int.reduceLE, Int.reduceEq, Int.reduceNeg, Int.reduceAdd, Int.reduceToNat, Int.reduceNe, Nat.reduceSub, Int.reducePow, Int.reduceMul, vb0, vb1, vb2, vb3, vb4, vb5, vb6, vb7, f_wire_PutVarint, h1, h3, s_callM, e_ownO, D.cells]
theorem putChunk_spec (c : List UInt8) (hc : c.length ≤ 2097152) : C M 23 [.d (.slice 1 (bytesD c))] = some (.own 1 (bytesD (vb c.length ++ c))) := by
  obtain ⟨s, h1, h2⟩ := size_spec c.length (by omega)
  have h3 := varint_spec c.length (by omega) [] (by simp)
  simp only [List.nil_append, bytesD_nil] at h3
  have hlen := bytesD_length (s := c)
  have hlen2 := bytesD_length (s := vb c.length)
  have h4 := vb_len c.length
  rw [c_fn (sf := f_wire_PutChunk) rfl rfl ⟨rfl, rfl⟩, bytesD_append]
  simp -implicitDefEqProofs (maxSteps := 1000000) (disch := omega) only [↓Int.reduceLT, ↓Int.reduceLE, ↓Int.reduceEq, ↓Nat.reduceEqDiff, Nat.reduceBEq, ↓reduceIte, St.toRS, restrict, initEnv, plainArgs, reduceCtorEq, Nat.reduceEqDiff, Nat.reduceAdd, Nat.reduceMul, Int.reduceLT, Int.reduceLE, Int.reduceEq, Int.reduceNeg, Int.reduceAdd, Int.reduceToNat, Int.reduceNe, Nat.reduceSub, Int.reducePow, Int.reduceMul, vb0, vb1, vb2, vb3, vb4, vb5, vb6, vb7, f_wire_PutChunk, h1, h3, s_callM, e_ownO, D.cells, hlen, hlen2]
/-! ### Words -/
def byteAt (n i : Nat) : UInt8 := UInt8.ofNat (n / 2 ^ (8 * i) % 256)
def wordL (s n : Nat) : List UInt8 := (List.range s).map (byteAt n)
theorem wordL_succ (s n : Nat) : wordL (s + 1) n = wordL s n ++ [byteAt n s] := by
  simp only [wordL, List.range_succ, List.map_append, List.map_cons, List.map_nil]
theorem wordL_len (s n : Nat) : (wordL s n).length = s := by simp [wordL]
theorem sh_8i {i : Nat} (h : i ≤ 8) : shAmt .u64 ((8 * i : Nat) : Int) = 8 * i := by
  simp only [shAmt, Int.toNat_natCast, IntKind.bits]
  omega
theorem fdiv_pow (n k : Nat) : (n : Int).fdiv (2 ^ k) = ((n / 2 ^ k : Nat) : Int) := by
  have : ((2 : Int) ^ k) = ((2 ^ k : Nat) : Int) := by simp
  rw [this, fdiv_nat]
theorem up_8i (i : Nat) : (8 : Int) * (i : Int) = ((8 * i : Nat) : Int) := rfl
theorem w_step (n i s : Nat) (hi : i < s) (hs : s ≤ 8) (hn : n < 18446744073709551616) (o : List UInt8) (ho : o.length < 140737488355328) :
    X M l_wire_word_1 { env := [(0, .d (.int .u64 n)), (5, .own 1 (bytesD o)), (9, .d (.int .i64 s)), (10, .d (.int .i64 i))], bx := [] } = some (.norm, { env := [(0, .d (.int .u64 n)), (5, .own 1 (bytesD (o ++ [byteAt n i]))), (9, .d (.int .i64 s)), (10, .d (.int .i64 (i + 1 : Nat)))], bx := [] }) := by
  have e1 := sh_8i (i := i) (by omega)
  have e2 := fdiv_pow n (8 * i)
  have e3 := wrap_byte (n := n / 2 ^ (8 * i))
  have hb : bytesD (o ++ [byteAt n i]) = bytesD o ++ [.int .u8 ((n / 2 ^ (8 * i) % 256 : Nat) : Int)] := by
    rw [bytesD_append, bytesD_cons, bytesD_nil, byteAt, byteD_ofNat (by omega)]
  have hlen := bytesD_length (s := o)
  rw [hb]
  generalize n / 2 ^ (8 * i) = m at *
  simp -implicitDefEqProofs (maxSteps := 1000000) (disch := omega) only [↓Int.reduceLT, ↓Int.reduceLE, ↓Int.reduceEq, ↓Nat.reduceEqDiff, Nat.reduceBEq, ↓reduceIte, St.toRS, restrict, initEnv, plainArgs, reduceCtorEq, Nat.reduceEqDiff, Nat.reduceAdd, Nat.reduceMul, Int.reduceLT, Int.reduceLE, Int.reduceEq, Int.reduceNeg, Int.reduceAdd, Int.reduceToNat, Int.reduceNe, Nat.reduceSub, Int.reducePow, Int.reduceMul, vb0, vb1, vb2, vb3, vb4, vb5, vb6, vb7, l_wire_word_1, up_8i, e1, e2, e3, hlen]
theorem w_loop (n s : Nat) (hs : s ≤ 8) (hn : n < 18446744073709551616) : ∀ (f i : Nat), i ≤ s → s - i ≤ f →
    X M (.loop l_wire_word_1) { env := [(0, .d (.int .u64 n)), (5, .own 1 (bytesD (wordL i n))), (9, .d (.int .i64 s)), (10, .d (.int .i64 i))], bx := [] } = some (.exit 0, { env := [(0, .d (.int .u64 n)), (5, .own 1 (bytesD (wordL s n))), (9, .d (.int .i64 s)), (10, .d (.int .i64 s)), (11, .d (.bool false))], bx := [] }) := by
  have stop : X M (.loop l_wire_word_1) { env := [(0, .d (.int .u64 n)), (5, .own 1 (bytesD (wordL s n))), (9, .d (.int .i64 s)), (10, .d (.int .i64 s))], bx := [] } = some (.exit 0, { env := [(0, .d (.int .u64 n)), (5, .own 1 (bytesD (wordL s n))), (9, .d (.int .i64 s)), (10, .d (.int .i64 s)), (11, .d (.bool false))], bx := [] }) := by
    refine loop_exit ?_ (by simp)
    generalize wordL s n = o
    simp -implicitDefEqProofs (maxSteps := 1000000) (disch := omega) only [↓Int.reduceLT, ↓Int.reduceLE, ↓Int.reduceEq, ↓Nat.reduceEqDiff, Nat.reduceBEq, ↓reduceIte, St.toRS, restrict, initEnv, plainArgs, reduceCtorEq, Nat.reduceEqDiff, Nat.reduceAdd, Nat.reduceMul, Int.reduceLT, Int.reduceLE, Int.reduceEq, Int.reduceNeg, Int.reduceAdd, Int.reduceToNat, Int.reduceNe, Nat.reduceSub, Int.reducePow, Int.reduceMul, vb0, vb1, vb2, vb3, vb4, vb5, vb6, vb7, l_wire_word_1]
  intro f
  induction f with
  | zero => intro i h1 h2; obtain rfl : i = s := by omega
            exact stop
  | succ f ih =>
    intro i h1 h2
    by_cases h : i = s
    · subst h; exact stop
    · rw [X_loop, w_step n i s (by omega) hs hn _ (by rw [wordL_len]; omega)]
      simp only [andThen]
      rw [← wordL_succ, ih (i + 1) (by omega) (by omega)]
theorem word_spec (n s : Nat) (hs : s ≤ 8) (hn : n < 18446744073709551616) : C M 53 [.d (.int .u64 n), .d (.int .i64 s)] = some (.own 1 (bytesD (wordL s n))) := by
  have hl := w_loop n s hs hn 8 0 (by omega) (by omega)
  simp only [show wordL 0 n = [] from rfl, bytesD_nil, Int.cast_ofNat_Int] at hl
  rw [c_fn (sf := f_wire_word) rfl rfl ⟨rfl, rfl⟩]
  generalize bytesD (wordL s n) = xs at *
  simp -implicitDefEqProofs (maxSteps := 1000000) (disch := omega) only [↓Int.reduceLT, ↓Int.reduceLE, ↓Int.reduceEq, ↓Nat.reduceEqDiff, Nat.reduceBEq, ↓reduceIte, St.toRS, restrict, initEnv, plainArgs, reduceCtorEq, Nat.reduceEqDiff, Nat.reduceAdd, Nat.reduceMul, Int.reduceLT, Int.reduceLE, Int.reduceEq, Int.reduceNeg, Int.reduceAdd, Int.reduceToNat, Int.reduceNe, Nat.reduceSub, Int.reducePow, Int.reduceMul, vb0, vb1, vb2, vb3, vb4, vb5, vb6, vb7, f_wire_word, hl, D.cells]
theorem putFix64_spec (n : Nat) (hn : n < 18446744073709551616) : C M 25 [.d (.int .u64 n)] = some (.own 1 (bytesD (wordL 8 n))) := by
  have h1 := word_spec n 8 (by omega) hn
  simp only [Int.cast_ofNat_Int] at h1
  rw [c_fn (sf := f_wire_PutFix64) rfl rfl ⟨rfl, rfl⟩]
  generalize bytesD (wordL 8 n) = xs at *
  simp -implicitDefEqProofs (maxSteps := 1000000) (disch := omega) only [↓Int.reduceLT, ↓Int.reduceLE, ↓Int.reduceEq, ↓Nat.reduceEqDiff, Nat.reduceBEq, ↓reduceIte, St.toRS, restrict, initEnv, plainArgs, reduceCtorEq, Nat.reduceEqDiff, Nat.reduceAdd, Nat.reduceMul, Int.reduceLT, Int.reduceLE, Int.reduceEq, Int.reduceNeg, Int.reduceAdd, Int.reduceToNat, Int.reduceNe, Nat.reduceSub, Int.reducePow, Int.reduceMul, vb0, vb1, vb2, vb3, vb4, vb5, vb6, vb7, f_wire_PutFix64, h1]
theorem putFix32_spec (n : Nat) (hn : n < 4294967296) : C M 24 [.d (.int .u32 n)] = some (.own 1 (bytesD (wordL 4 n))) := by
  have h1 := word_spec n 4 (by omega) (by omega)
  simp only [Int.cast_ofNat_Int] at h1
  rw [c_fn (sf := f_wire_PutFix32) rfl rfl ⟨rfl, rfl⟩]
  generalize bytesD (wordL 4 n) = xs at *
  simp -implicitDefEqProofs (maxSteps := 1000000) (disch := omega) only [↓Int.reduceLT, ↓Int.reduceLE, ↓Int.reduceEq, ↓Nat.reduceEqDiff, Nat.reduceBEq, ↓reduceIte, St.toRS, restrict, initEnv, plainArgs, reduceCtorEq, Nat.reduceEqDiff, Nat.reduceAdd, Nat.reduceMul, Int.reduceLT, Int.reduceLE, Int.reduceEq, Int.reduceNeg, Int.reduceAdd, Int.reduceToNat, Int.reduceNe, Nat.reduceSub, Int.reducePow, Int.reduceMul, vb0, vb1, vb2, vb3, vb4, vb5, vb6, vb7, f_wire_PutFix32, h1]
theorem word4_low (n : Nat) : wordL 4 (n % 4294967296) = wordL 4 n := by
  have h : ∀ i, i < 4 → byteAt (n % 4294967296) i = byteAt n i := by
    intro i hi
    simp only [byteAt]
    congr 1
    rcases (by omega : i = 0 ∨ i = 1 ∨ i = 2 ∨ i = 3) with rfl | rfl | rfl | rfl <;> simp <;> omega
  simp only [wordL]
  refine List.map_congr_left fun i hi => h i (by simpa using hi)
end Go.Proofs.YtedncpnkbpbchaaGreatDoor
namespace Go.Proofs.YtedncpnkbpbchaaGreatDoor
open Go.Vi


theorem xor_zero {a : Nat} (h : a < 18446744073709551616) : bitsD .xor .u64 (a : Int) 0 = a := by
  have := xor_u64 h (b := 0) (by omega)
  simpa using this
theorem nat_xor_ones {a : Nat} (h : a < 18446744073709551616) : a ^^^ 18446744073709551615 = 18446744073709551615 - a := by
  have h1 := congrArg BitVec.toNat (BitVec.xor_allOnes (x := BitVec.ofNat 64 a))
  rw [BitVec.toNat_xor, BitVec.toNat_not, BitVec.toNat_allOnes, BitVec.toNat_ofNat, Nat.mod_eq_of_lt (by omega)] at h1
  simpa using h1
theorem xor_ones {a : Nat} (h : a < 18446744073709551616) : bitsD .xor .u64 (a : Int) 18446744073709551615 = ((18446744073709551615 - a : Nat) : Int) := by
  have := xor_u64 h (b := 18446744073709551615) (by omega)
  rw [nat_xor_ones h] at this
  exact this
theorem and_one {a : Nat} (h : a < 18446744073709551616) : bitsD .and .u64 (a : Int) 1 = ((a % 2 : Nat) : Int) := by
  have := and_u64 h (b := 1) (by omega)
  rw [Nat.and_one_is_mod] at this
  exact this
theorem wrap_i64_nat {a : Nat} : IntKind.i64.wrap (a : Int) = if a % 18446744073709551616 < 9223372036854775808 then ((a % 18446744073709551616 : Nat) : Int) else ((a % 18446744073709551616 : Nat) : Int) - 18446744073709551616 := by
  simp [IntKind.wrap, IntKind.min, IntKind.max, IntKind.signed, IntKind.bits]
  split <;> omega
theorem xori_zero {a : Nat} (h : a < 9223372036854775808) : bitsD .xor .i64 (a : Int) 0 = a := by
  show IntKind.i64.wrap ((BitVec.ofInt 64 (a : Int) ^^^ BitVec.ofInt 64 0).toNat : Int) = _
  rw [BitVec.toNat_xor, ofInt_nat a (by omega)]
  rw [show (BitVec.ofInt 64 0).toNat = 0 by decide, Nat.xor_zero]
  rw [wrap_i64_nat, if_pos (by omega)]
  omega
theorem xori_neg {a : Nat} (h : a < 9223372036854775808) : bitsD .xor .i64 (a : Int) (-1) = -1 - (a : Int) := by
  show IntKind.i64.wrap ((BitVec.ofInt 64 (a : Int) ^^^ BitVec.ofInt 64 (-1)).toNat : Int) = _
  rw [BitVec.toNat_xor, ofInt_nat a (by omega), show (BitVec.ofInt 64 (-1)).toNat = 18446744073709551615 by decide, nat_xor_ones (by omega)]
  rw [wrap_i64_nat, if_neg (by omega)]
  omega
theorem wrap_u64_neg {n : Int} (h0 : -9223372036854775808 ≤ n) (h1 : n < 0) : IntKind.u64.wrap n = n + 18446744073709551616 := by
  simp [IntKind.wrap, IntKind.min, IntKind.max, IntKind.signed, IntKind.bits]
  omega
theorem wrap_u64_twice {n : Int} (h0 : -9223372036854775808 ≤ n) (h1 : n < 0) : IntKind.u64.wrap ((n + 18446744073709551616) * 2) = 2 * n + 18446744073709551616 := by
  simp [IntKind.wrap, IntKind.min, IntKind.max, IntKind.signed, IntKind.bits]
  omega
/-- A number with its sign at the end. -/
def zz (n : Int) : Nat := if 0 ≤ n then (2 * n).toNat else (-2 * n - 1).toNat
theorem zz_lt {n : Int} (h0 : -9223372036854775808 ≤ n) (h1 : n ≤ 9223372036854775807) : zz n < 18446744073709551616 := by
  simp only [zz]; split <;> omega
theorem zigZag_spec (n : Int) (h0 : -9223372036854775808 ≤ n) (h1 : n ≤ 9223372036854775807) : C M 27 [.d (.int .i64 n)] = some (.d (.int .u64 (zz n))) := by
  rw [c_fn (sf := f_wire_ZigZag) rfl rfl ⟨rfl, rfl⟩]
  have s63 : shAmt .i64 63 = 63 := rfl
  have p63 : (2 : Int) ^ 63 = 9223372036854775808 := by decide
  by_cases h : 0 ≤ n
  · obtain ⟨a, rfl⟩ := Int.eq_ofNat_of_zero_le h
    have e : ((zz (a : Int) : Nat) : Int) = (a : Int) * 2 := by simp only [zz, if_pos h]; omega
    have e1 : (a : Int).fdiv 9223372036854775808 = 0 := by
      rw [show (9223372036854775808 : Int) = ((9223372036854775808 : Nat) : Int) from rfl, fdiv_nat, Nat.div_eq_of_lt (by omega)]; rfl
    have e2 : bitsD .xor .u64 ((a * 2 : Nat) : Int) 0 = ((a * 2 : Nat) : Int) := xor_zero (by omega)
    rw [e]
    simp -implicitDefEqProofs (maxSteps := 1000000) (disch := omega) only [↓Int.reduceLT, ↓Int.reduceLE, ↓Int.reduceEq, ↓Nat.reduceEqDiff, Nat.reduceBEq, ↓reduceIte, St.toRS, restrict, initEnv, plainArgs, reduceCtorEq, Nat.reduceEqDiff, Nat.reduceAdd, Nat.reduceMul, Int.reduceLT, Int.reduceLE, Int.reduceEq, Int.reduceNeg, Int.reduceAdd, Int.reduceToNat, Int.reduceNe, Nat.reduceSub, Int.reducePow, Int.reduceMul, vb0, vb1, vb2, vb3, vb4, vb5, vb6, vb7, f_wire_ZigZag, s63, p63, e1, e2]
  · have e : ((zz n : Nat) : Int) = -2 * n - 1 := by simp only [zz, if_neg h]; omega
    have e0 := wrap_u64_neg h0 (by omega)
    have e1 : n.fdiv 9223372036854775808 = -1 := by
      rw [Int.fdiv_eq_ediv_of_nonneg _ (by omega)]; omega
    have e3 := wrap_u64_twice h0 (by omega)
    have e4 : IntKind.u64.wrap (-1) = 18446744073709551615 := by decide
    obtain ⟨a, ha⟩ := Int.eq_ofNat_of_zero_le (show 0 ≤ 2 * n + 18446744073709551616 by omega)
    have e2 : bitsD .xor .u64 (a : Int) 18446744073709551615 = ((18446744073709551615 - a : Nat) : Int) := xor_ones (by omega)
    have e5 : ((18446744073709551615 - a : Nat) : Int) = -2 * n - 1 := by omega
    rw [e]
    simp -implicitDefEqProofs (maxSteps := 1000000) (disch := omega) only [↓Int.reduceLT, ↓Int.reduceLE, ↓Int.reduceEq, ↓Nat.reduceEqDiff, Nat.reduceBEq, ↓reduceIte, St.toRS, restrict, initEnv, plainArgs, reduceCtorEq, Nat.reduceEqDiff, Nat.reduceAdd, Nat.reduceMul, Int.reduceLT, Int.reduceLE, Int.reduceEq, Int.reduceNeg, Int.reduceAdd, Int.reduceToNat, Int.reduceNe, Nat.reduceSub, Int.reducePow, Int.reduceMul, vb0, vb1, vb2, vb3, vb4, vb5, vb6, vb7, f_wire_ZigZag, s63, p63, e0, e1, e3, e4, ha, e2, e5]
/-- The number back. -/
def zag (u : Nat) : Int := if u % 2 = 0 then ((u / 2 : Nat) : Int) else -((u / 2 : Nat) : Int) - 1
theorem zagZig_spec (u : Nat) (h : u < 18446744073709551616) : C M 33 [.d (.int .u64 u)] = some (.d (.int .i64 (zag u))) := by
  rw [c_fn (sf := f_wire_ZagZig) rfl rfl ⟨rfl, rfl⟩]
  have e1 : (u : Int).fdiv 2 = ((u / 2 : Nat) : Int) := fdiv_nat
  have e2 := and_one h
  have p1 : (2 : Int) ^ 1 = 2 := by decide
  by_cases c : u % 2 = 0
  · have e : zag u = ((u / 2 : Nat) : Int) := by simp only [zag, if_pos c]
    have e3 := xori_zero (a := u / 2) (by omega)
    rw [e]
    rw [c] at e2
    have e4 : (0 : Int) - 0 = 0 := rfl
    simp -implicitDefEqProofs (maxSteps := 1000000) (disch := omega) only [↓Int.reduceLT, ↓Int.reduceLE, ↓Int.reduceEq, ↓Nat.reduceEqDiff, Nat.reduceBEq, ↓reduceIte, St.toRS, restrict, initEnv, plainArgs, reduceCtorEq, Nat.reduceEqDiff, Nat.reduceAdd, Nat.reduceMul, Int.reduceLT, Int.reduceLE, Int.reduceEq, Int.reduceNeg, Int.reduceAdd, Int.reduceToNat, Int.reduceNe, Nat.reduceSub, Int.reducePow, Int.reduceMul, vb0, vb1, vb2, vb3, vb4, vb5, vb6, vb7, f_wire_ZagZig, p1, e1, e2, e3, e4]
  · have e : zag u = -1 - ((u / 2 : Nat) : Int) := by simp only [zag, if_neg c]; omega
    have e3 := xori_neg (a := u / 2) (by omega)
    have c1 : u % 2 = 1 := by omega
    rw [e]
    rw [c1] at e2
    have e4 : (0 : Int) - 1 = -1 := rfl
    simp -implicitDefEqProofs (maxSteps := 1000000) (disch := omega) only [↓Int.reduceLT, ↓Int.reduceLE, ↓Int.reduceEq, ↓Nat.reduceEqDiff, Nat.reduceBEq, ↓reduceIte, St.toRS, restrict, initEnv, plainArgs, reduceCtorEq, Nat.reduceEqDiff, Nat.reduceAdd, Nat.reduceMul, Int.reduceLT, Int.reduceLE, Int.reduceEq, Int.reduceNeg, Int.reduceAdd, Int.reduceToNat, Int.reduceNe, Nat.reduceSub, Int.reducePow, Int.reduceMul, vb0, vb1, vb2, vb3, vb4, vb5, vb6, vb7, f_wire_ZagZig, p1, e1, e2, e3, e4]
theorem zag_lo {u : Nat} (h : u < 18446744073709551616) : -9223372036854775808 ≤ zag u ∧ zag u ≤ 9223372036854775807 := by
  simp only [zag]; split <;> omega

/-! ### A number read back -/
/-- The number, the place behind it, the error: from digit k on, at most f digits. -/
def gvF (b : List UInt8) (a : Nat) : Nat → Nat → Nat → Nat × Nat × Nat
  | 0, _, _ => (0, 0, 3)
  | f + 1, k, n =>
    match b[a + k]? with
    | none => (0, 0, 3)
    | some c => if k = 9 ∧ 1 < c.toNat then (0, 0, 4) else
      if c.toNat < 128 then (n ||| c.toNat % 128 * 2 ^ (7 * k), a + k + 1, 0) else gvF b a f (k + 1) (n ||| c.toNat % 128 * 2 ^ (7 * k))
theorem part_lt {c k : Nat} (hc : c < 256) (hk : k ≤ 9) (h : ¬ (k = 9 ∧ 1 < c)) : c % 128 * 2 ^ (7 * k) < 18446744073709551616 := by
  by_cases h9 : k = 9
  · subst h9
    have : c ≤ 1 := by omega
    have : c % 128 ≤ 1 := by omega
    calc c % 128 * 2 ^ (7 * 9) ≤ 1 * 2 ^ (7 * 9) := Nat.mul_le_mul_right _ this
      _ < _ := by decide
  · have h1 : 2 ^ (7 * k) ≤ 2 ^ 56 := Nat.pow_le_pow_right (by omega) (by omega)
    calc c % 128 * 2 ^ (7 * k) ≤ 127 * 2 ^ 56 := Nat.mul_le_mul (by omega) h1
      _ < _ := by decide
theorem or_lt {a b : Nat} (ha : a < 18446744073709551616) (hb : b < 18446744073709551616) : a ||| b < 18446744073709551616 := Nat.or_lt_two_pow (n := 64) ha hb
theorem sh_7k {k : Nat} (h : k ≤ 9) : shAmt .u64 ((7 * k : Nat) : Int) = 7 * k := by
  simp only [shAmt, Int.toNat_natCast, IntKind.bits]
  omega
theorem up_7i (i : Nat) : (7 : Int) * (i : Int) = ((7 * i : Nat) : Int) := rfl
theorem mul_pow (m k : Nat) : (m : Int) * 2 ^ k = ((m * 2 ^ k : Nat) : Int) := by simp
def gvO (r : Nat × Nat × Nat) : St := { env := [(4, .d (.int .u64 r.1)), (5, .d (.int .i64 r.2.1)), (6, .d (.int .i64 r.2.2))], bx := [] }
def gv_st (b : List UInt8) (a k n : Nat) : St := { env := [(0, .d (.slice 1 (bytesD b))), (1, .d (.int .i64 a)), (4, .d (.int .u64 n)), (13, .d (.int .i64 k))], bx := [] }
theorem gv_loop (b : List UInt8) (a : Nat) (hb : b.length ≤ 2097152) (ha : a ≤ b.length) : ∀ (f k n : Nat), k + f = 10 → n < 18446744073709551616 → a + k ≤ b.length →
    (gvF b a f k n = (0, 0, 3) ∧ ∃ E, X M (.loop l_wire_GetVarint_1) (gv_st b a k n) = some (.exit 0, { env := E, bx := [] })) ∨
    X M (.loop l_wire_GetVarint_1) (gv_st b a k n) = some (.ret, gvO (gvF b a f k n)) := by
  have hlen := bytesD_length (s := b)
  intro f
  induction f with
  | zero =>
    intro k n hk hn hak
    obtain rfl : k = 10 := by omega
    left
    refine ⟨rfl, [(0, .d (.slice 1 (bytesD b))), (1, .d (.int .i64 a)), (4, .d (.int .u64 n)), (13, .d (.int .i64 10)), (14, .d (.bool false))], ?_⟩
    refine loop_exit ?_ (by simp)
    simp -implicitDefEqProofs (maxSteps := 1000000) (disch := omega) only [↓Int.reduceLT, ↓Int.reduceLE, ↓Int.reduceEq, ↓Nat.reduceEqDiff, Nat.reduceBEq, ↓reduceIte, St.toRS, restrict, initEnv, plainArgs, reduceCtorEq, Nat.reduceEqDiff, Nat.reduceAdd, Nat.reduceMul, Int.reduceLT, Int.reduceLE, Int.reduceEq, Int.reduceNeg, Int.reduceAdd, Int.reduceToNat, Int.reduceNe, Nat.reduceSub, Int.reducePow, Int.reduceMul, vb0, vb1, vb2, vb3, vb4, vb5, vb6, vb7, l_wire_GetVarint_1, gv_st]
  | succ f ih =>
    intro k n hk hn hak
    rcases Nat.lt_or_ge (a + k) b.length with hlt | hge
    · have hg : (bytesD b)[a + k]? = some (.int .u8 ((b[a + k]).toNat : Int)) := by rw [bytesD_get, List.getElem?_eq_getElem hlt]; rfl
      have hc := (b[a + k]).toNat_lt
      have hgv : b[a + k]? = some b[a + k] := List.getElem?_eq_getElem hlt
      by_cases h9 : k = 9 ∧ 1 < b[a + k].toNat
      · have e : gvF b a (f + 1) k n = (0, 0, 4) := by simp only [gvF, hgv]; rw [if_pos h9]
        rw [e]
        right
        obtain ⟨rfl, h9⟩ := h9
        generalize (b[a + 9]).toNat = c at *
        refine loop_exit ?_ (by simp)
        simp -implicitDefEqProofs (maxSteps := 1000000) (disch := omega) only [↓Int.reduceLT, ↓Int.reduceLE, ↓Int.reduceEq, ↓Nat.reduceEqDiff, Nat.reduceBEq, ↓reduceIte, St.toRS, restrict, initEnv, plainArgs, reduceCtorEq, Nat.reduceEqDiff, Nat.reduceAdd, Nat.reduceMul, Int.reduceLT, Int.reduceLE, Int.reduceEq, Int.reduceNeg, Int.reduceAdd, Int.reduceToNat, Int.reduceNe, Nat.reduceSub, Int.reducePow, Int.reduceMul, vb0, vb1, vb2, vb3, vb4, vb5, vb6, vb7, l_wire_GetVarint_1, gv_st, gvO, hg, hlen]
      · have p := part_lt hc (k := k) (by omega) h9
        have w1 : IntKind.u64.wrap ((b[a + k].toNat % 128 * 2 ^ (7 * k) : Nat) : Int) = ((b[a + k].toNat % 128 * 2 ^ (7 * k) : Nat) : Int) := wrap_u64_nat p
        have w2 := or_u64 hn p
        have w3 := and127 hc
        have w4 := sh_7k (k := k) (by omega)
        have w5 := mul_pow (b[a + k].toNat % 128) (7 * k)
        have hm := or_lt hn p
        have step : gvF b a (f + 1) k n = if b[a + k].toNat < 128 then (n ||| b[a + k].toNat % 128 * 2 ^ (7 * k), a + k + 1, 0) else gvF b a f (k + 1) (n ||| b[a + k].toNat % 128 * 2 ^ (7 * k)) := by
          simp only [gvF, hgv]; rw [if_neg h9]
        rw [step]
        by_cases h128 : b[a + k].toNat < 128
        · rw [if_pos h128]
          right
          refine loop_exit ?_ (by simp)
          have hp : k = 9 → b[a + k].toNat % 128 * 9223372036854775808 = b[a + k].toNat % 128 * 2 ^ (7 * k) := by rintro rfl; rfl
          clear step
          generalize (b[a + k]).toNat = c at *
          generalize c % 128 * 2 ^ (7 * k) = p' at *
          generalize n ||| p' = m at *
          by_cases hk9 : k = 9
          · have hp := hp hk9
            subst hk9
            simp -implicitDefEqProofs (maxSteps := 1000000) (disch := omega) only [↓Int.reduceLT, ↓Int.reduceLE, ↓Int.reduceEq, ↓Nat.reduceEqDiff, Nat.reduceBEq, ↓reduceIte, St.toRS, restrict, initEnv, plainArgs, reduceCtorEq, Nat.reduceEqDiff, Nat.reduceAdd, Nat.reduceMul, Int.reduceLT, Int.reduceLE, Int.reduceEq, Int.reduceNeg, Int.reduceAdd, Int.reduceToNat, Int.reduceNe, Nat.reduceSub, Int.reducePow, Int.reduceMul, vb0, vb1, vb2, vb3, vb4, vb5, vb6, vb7, l_wire_GetVarint_1, gv_st, gvO, hg, hlen, up_7i, w1, w2, w3, hp]
          · clear hp
            simp -implicitDefEqProofs (maxSteps := 1000000) (disch := omega) only [↓Int.reduceLT, ↓Int.reduceLE, ↓Int.reduceEq, ↓Nat.reduceEqDiff, Nat.reduceBEq, ↓reduceIte, St.toRS, restrict, initEnv, plainArgs, reduceCtorEq, Nat.reduceEqDiff, Nat.reduceAdd, Nat.reduceMul, Int.reduceLT, Int.reduceLE, Int.reduceEq, Int.reduceNeg, Int.reduceAdd, Int.reduceToNat, Int.reduceNe, Nat.reduceSub, Int.reducePow, Int.reduceMul, vb0, vb1, vb2, vb3, vb4, vb5, vb6, vb7, l_wire_GetVarint_1, gv_st, gvO, hg, hlen, up_7i, w1, w2, w3, w4, w5]
        · rw [if_neg h128]
          have hk9 : k ≠ 9 := fun h => h9 ⟨h, by omega⟩
          have hr : X M l_wire_GetVarint_1 (gv_st b a k n) = some (.norm, gv_st b a (k + 1) (n ||| b[a + k].toNat % 128 * 2 ^ (7 * k))) := by
            generalize (b[a + k]).toNat = c at *
            generalize c % 128 * 2 ^ (7 * k) = p' at *
            generalize n ||| p' = m at *
            simp -implicitDefEqProofs (maxSteps := 1000000) (disch := omega) only [↓Int.reduceLT, ↓Int.reduceLE, ↓Int.reduceEq, ↓Nat.reduceEqDiff, Nat.reduceBEq, ↓reduceIte, St.toRS, restrict, initEnv, plainArgs, reduceCtorEq, Nat.reduceEqDiff, Nat.reduceAdd, Nat.reduceMul, Int.reduceLT, Int.reduceLE, Int.reduceEq, Int.reduceNeg, Int.reduceAdd, Int.reduceToNat, Int.reduceNe, Nat.reduceSub, Int.reducePow, Int.reduceMul, vb0, vb1, vb2, vb3, vb4, vb5, vb6, vb7, l_wire_GetVarint_1, gv_st, gvO, hg, hlen, up_7i, w1, w2, w3, w4, w5]
          rw [X_loop, hr]
          simp only [andThen]
          rcases ih (k + 1) _ (by omega) hm (by omega) with ⟨i1, i2⟩ | i
          · exact Or.inl ⟨i1, i2⟩
          · exact Or.inr i
    · have hge2 : a + k = b.length := by omega
      left
      have hgv : b[a + k]? = none := List.getElem?_eq_none hge
      refine ⟨by simp only [gvF, hgv], [(0, .d (.slice 1 (bytesD b))), (1, .d (.int .i64 a)), (4, .d (.int .u64 n)), (7, .d (.int .i64 k)), (13, .d (.int .i64 k)), (21, .d (.bool true))], ?_⟩
      refine loop_exit ?_ (by simp)
      simp -implicitDefEqProofs (maxSteps := 1000000) (disch := omega) only [↓Int.reduceLT, ↓Int.reduceLE, ↓Int.reduceEq, ↓Nat.reduceEqDiff, Nat.reduceBEq, ↓reduceIte, St.toRS, restrict, initEnv, plainArgs, reduceCtorEq, Nat.reduceEqDiff, Nat.reduceAdd, Nat.reduceMul, Int.reduceLT, Int.reduceLE, Int.reduceEq, Int.reduceNeg, Int.reduceAdd, Int.reduceToNat, Int.reduceNe, Nat.reduceSub, Int.reducePow, Int.reduceMul, vb0, vb1, vb2, vb3, vb4, vb5, vb6, vb7, l_wire_GetVarint_1, gv_st, hlen]
theorem place_spec (b : List UInt8) (a : Int) (hb : b.length ≤ 2097152) : C M 56 [.d (.slice 1 (bytesD b)), .d (.int .i64 a)] = some (.d (.bool (decide (0 ≤ a ∧ a ≤ b.length)))) := by
  rw [c_fn (sf := f_wire_place) rfl rfl ⟨rfl, rfl⟩]
  have hlen := bytesD_length (s := b)
  by_cases h0 : 0 ≤ a
  · by_cases h1 : a ≤ b.length
    · have e : decide (0 ≤ a ∧ a ≤ b.length) = true := by simp [h0, h1]
      rw [e]
      simp -implicitDefEqProofs (maxSteps := 1000000) (disch := omega) only [↓Int.reduceLT, ↓Int.reduceLE, ↓Int.reduceEq, ↓Nat.reduceEqDiff, Nat.reduceBEq, ↓reduceIte, St.toRS, restrict, initEnv, plainArgs, reduceCtorEq, Nat.reduceEqDiff, Nat.reduceAdd, Nat.reduceMul, Int.reduceLT, Int.reduceLE, Int.reduceEq, Int.reduceNeg, Int.reduceAdd, Int.reduceToNat, Int.reduceNe, Nat.reduceSub, Int.reducePow, Int.reduceMul, vb0, vb1, vb2, vb3, vb4, vb5, vb6, vb7, f_wire_place, hlen]
    · have e : decide (0 ≤ a ∧ a ≤ b.length) = false := by simp [h1]
      rw [e]
      simp -implicitDefEqProofs (maxSteps := 1000000) (disch := omega) only [↓Int.reduceLT, ↓Int.reduceLE, ↓Int.reduceEq, ↓Nat.reduceEqDiff, Nat.reduceBEq, ↓reduceIte, St.toRS, restrict, initEnv, plainArgs, reduceCtorEq, Nat.reduceEqDiff, Nat.reduceAdd, Nat.reduceMul, Int.reduceLT, Int.reduceLE, Int.reduceEq, Int.reduceNeg, Int.reduceAdd, Int.reduceToNat, Int.reduceNe, Nat.reduceSub, Int.reducePow, Int.reduceMul, vb0, vb1, vb2, vb3, vb4, vb5, vb6, vb7, f_wire_place, hlen]
  · have e : decide (0 ≤ a ∧ a ≤ b.length) = false := by simp [h0]
    rw [e]
    simp -implicitDefEqProofs (maxSteps := 1000000) (disch := omega) only [↓Int.reduceLT, ↓Int.reduceLE, ↓Int.reduceEq, ↓Nat.reduceEqDiff, Nat.reduceBEq, ↓reduceIte, St.toRS, restrict, initEnv, plainArgs, reduceCtorEq, Nat.reduceEqDiff, Nat.reduceAdd, Nat.reduceMul, Int.reduceLT, Int.reduceLE, Int.reduceEq, Int.reduceNeg, Int.reduceAdd, Int.reduceToNat, Int.reduceNe, Nat.reduceSub, Int.reducePow, Int.reduceMul, vb0, vb1, vb2, vb3, vb4, vb5, vb6, vb7, f_wire_place, hlen]
theorem jump_ret {b : SC} {st : St} : jumpIn M b (some (.ret, st)) = some (.ret, st) := rfl
/-- A number's answer as the program gives it. -/
def gvD (r : Nat × Nat × Nat) : V := .tup [.int .u64 r.1, .int .i64 r.2.1, .int .i64 r.2.2]
theorem getVarint_spec (b : List UInt8) (a : Nat) (hb : b.length ≤ 2097152) (ha : a ≤ b.length) : C M 32 [.d (.slice 1 (bytesD b)), .d (.int .i64 a)] = some (gvD (gvF b a 10 0 0)) := by
  rw [c_fn (sf := f_wire_GetVarint) rfl rfl ⟨rfl, rfl⟩]
  have hp := place_spec b a hb
  have e : decide ((0 : Int) ≤ a ∧ (a : Int) ≤ b.length) = true := by simp; omega
  rw [e] at hp
  have hl := gv_loop b a hb ha 10 0 0 (by omega) (by omega) (by omega)
  simp only [gv_st, Int.cast_ofNat_Int] at hl
  rcases hl with ⟨h1, E, h2⟩ | h2
  · rw [h1]
    clear h1
    simp -implicitDefEqProofs (maxSteps := 1000000) (disch := omega) only [↓Int.reduceLT, ↓Int.reduceLE, ↓Int.reduceEq, ↓Nat.reduceEqDiff, Nat.reduceBEq, ↓reduceIte, St.toRS, restrict, initEnv, plainArgs, reduceCtorEq, Nat.reduceEqDiff, Nat.reduceAdd, Nat.reduceMul, Int.reduceLT, Int.reduceLE, Int.reduceEq, Int.reduceNeg, Int.reduceAdd, Int.reduceToNat, Int.reduceNe, Nat.reduceSub, Int.reducePow, Int.reduceMul, vb0, vb1, vb2, vb3, vb4, vb5, vb6, vb7, f_wire_GetVarint, b_wire_GetVarint_15, SC.scp, X_scope, jump_ret, hp, h2, gvD]
  · generalize gvF b a 10 0 0 = r at *
    simp only [gvO] at h2
    simp -implicitDefEqProofs (maxSteps := 1000000) (disch := omega) only [↓Int.reduceLT, ↓Int.reduceLE, ↓Int.reduceEq, ↓Nat.reduceEqDiff, Nat.reduceBEq, ↓reduceIte, St.toRS, restrict, initEnv, plainArgs, reduceCtorEq, Nat.reduceEqDiff, Nat.reduceAdd, Nat.reduceMul, Int.reduceLT, Int.reduceLE, Int.reduceEq, Int.reduceNeg, Int.reduceAdd, Int.reduceToNat, Int.reduceNe, Nat.reduceSub, Int.reducePow, Int.reduceMul, vb0, vb1, vb2, vb3, vb4, vb5, vb6, vb7, f_wire_GetVarint, b_wire_GetVarint_15, SC.scp, X_scope, jump_ret, hp, h2, gvD]
theorem getVarint_out (b : List UInt8) (a : Int) (hb : b.length ≤ 2097152) (ha : a < 0 ∨ b.length < a) : C M 32 [.d (.slice 1 (bytesD b)), .d (.int .i64 a)] = some (.tup [.int .u64 0, .int .i64 0, .int .i64 18]) := by
  rw [c_fn (sf := f_wire_GetVarint) rfl rfl ⟨rfl, rfl⟩]
  have hp := place_spec b a hb
  have e : decide ((0 : Int) ≤ a ∧ (a : Int) ≤ b.length) = false := by simp; omega
  rw [e] at hp
  simp -implicitDefEqProofs (maxSteps := 1000000) (disch := omega) only [↓Int.reduceLT, ↓Int.reduceLE, ↓Int.reduceEq, ↓Nat.reduceEqDiff, Nat.reduceBEq, ↓reduceIte, St.toRS, restrict, initEnv, plainArgs, reduceCtorEq, Nat.reduceEqDiff, Nat.reduceAdd, Nat.reduceMul, Int.reduceLT, Int.reduceLE, Int.reduceEq, Int.reduceNeg, Int.reduceAdd, Int.reduceToNat, Int.reduceNe, Nat.reduceSub, Int.reducePow, Int.reduceMul, vb0, vb1, vb2, vb3, vb4, vb5, vb6, vb7, f_wire_GetVarint, b_wire_GetVarint_15, SC.scp, X_scope, jump_ret, hp]

/-! ### The reference's -/
def rgv_st (b : List UInt8) (a k n : Nat) : St := { env := [(0, .d (.slice 1 (bytesD b))), (1, .d (.int .i64 a)), (7, .d (.int .u64 n)), (8, .d (.int .i64 k))], bx := [] }
end Go.Proofs.YtedncpnkbpbchaaGreatDoor
namespace Go.Proofs.YtedncpnkbpbchaaGreatDoor
open Go.Vi


theorem gvF_ok (b : List UInt8) (a : Nat) : ∀ (f k n : Nat), k + f = 10 → n < 18446744073709551616 →
    (gvF b a f k n).1 < 18446744073709551616 ∧ (gvF b a f k n).2.1 ≤ b.length ∧ (gvF b a f k n).2.2 ≤ 4 := by
  intro f
  induction f with
  | zero => intro k n h1 h2; simp [gvF]
  | succ f ih =>
    intro k n h1 h2
    rw [gvF]
    cases hg : b[a + k]? with
    | none => simp
    | some c =>
      have hlt := (List.getElem?_eq_some_iff.1 hg).1
      simp only
      by_cases h9 : k = 9 ∧ 1 < c.toNat
      · rw [if_pos h9]; simp
      · rw [if_neg h9]
        have hm := or_lt h2 (part_lt c.toNat_lt (k := k) (by omega) h9)
        split
        · exact ⟨hm, by simp only; omega, by simp⟩
        · exact ih (k + 1) _ (by omega) hm
/-- A chunk: its bytes, the place behind it, the error. -/
def ckP (b : List UInt8) (a : Nat) : List UInt8 × Nat × Nat :=
  if (gvF b a 10 0 0).2.2 ≠ 0 then ([], 0, (gvF b a 10 0 0).2.2)
  else if b.length - (gvF b a 10 0 0).2.1 < (gvF b a 10 0 0).1 then ([], 0, 3)
  else ((b.take ((gvF b a 10 0 0).2.1 + (gvF b a 10 0 0).1)).drop (gvF b a 10 0 0).2.1, (gvF b a 10 0 0).2.1 + (gvF b a 10 0 0).1, 0)
def ckD (r : List UInt8 × Nat × Nat) : V := .tup [.slice 1 (bytesD r.1), .int .i64 r.2.1, .int .i64 r.2.2]
theorem span_spec (b : List UInt8) (a : Nat) (hb : b.length ≤ 2097152) (ha : a ≤ b.length) : C M 54 [.d (.slice 1 (bytesD b)), .d (.int .i64 a)] =
    some (if (gvF b a 10 0 0).2.2 ≠ 0 then .tup [.int .i64 0, .int .i64 0, .int .i64 (gvF b a 10 0 0).2.2] else if b.length - (gvF b a 10 0 0).2.1 < (gvF b a 10 0 0).1 then .tup [.int .i64 0, .int .i64 0, .int .i64 3]
      else .tup [.int .i64 (gvF b a 10 0 0).2.1, .int .i64 ((gvF b a 10 0 0).2.1 + (gvF b a 10 0 0).1 : Nat), .int .i64 0]) := by
  rw [c_fn (sf := f_wire_Span) rfl rfl ⟨rfl, rfl⟩]
  have h1 := getVarint_spec b a hb ha
  have ok := gvF_ok b a 10 0 0 (by omega) (by omega)
  have hlen := bytesD_length (s := b)
  simp only [gvD] at h1
  generalize gvF b a 10 0 0 = r at *
  obtain ⟨n, t, e⟩ := r
  simp only at ok h1 ⊢
  obtain ⟨o1, o2, o3⟩ := ok
  by_cases he : e = 0
  · subst he
    rw [if_neg (by simp)]
    by_cases hn : b.length - t < n
    · rw [if_pos hn]
      simp -implicitDefEqProofs (maxSteps := 1000000) (disch := omega) only [↓Int.reduceLT, ↓Int.reduceLE, ↓Int.reduceEq, ↓Nat.reduceEqDiff, Nat.reduceBEq, ↓reduceIte, St.toRS, restrict, initEnv, plainArgs, reduceCtorEq, Nat.reduceEqDiff, Nat.reduceAdd, Nat.reduceMul, Int.reduceLT, Int.reduceLE, Int.reduceEq, Int.reduceNeg, Int.reduceAdd, Int.reduceToNat, Int.reduceNe, Nat.reduceSub, Int.reducePow, Int.reduceMul, vb0, vb1, vb2, vb3, vb4, vb5, vb6, vb7, f_wire_Span, h1, hlen, List.getElem?_cons_zero, List.getElem?_cons_succ]
    · rw [if_neg hn]
      simp -implicitDefEqProofs (maxSteps := 1000000) (disch := omega) only [↓Int.reduceLT, ↓Int.reduceLE, ↓Int.reduceEq, ↓Nat.reduceEqDiff, Nat.reduceBEq, ↓reduceIte, St.toRS, restrict, initEnv, plainArgs, reduceCtorEq, Nat.reduceEqDiff, Nat.reduceAdd, Nat.reduceMul, Int.reduceLT, Int.reduceLE, Int.reduceEq, Int.reduceNeg, Int.reduceAdd, Int.reduceToNat, Int.reduceNe, Nat.reduceSub, Int.reducePow, Int.reduceMul, vb0, vb1, vb2, vb3, vb4, vb5, vb6, vb7, f_wire_Span, h1, hlen, List.getElem?_cons_zero, List.getElem?_cons_succ]
  · rw [if_pos he]
    simp -implicitDefEqProofs (maxSteps := 1000000) (disch := omega) only [↓Int.reduceLT, ↓Int.reduceLE, ↓Int.reduceEq, ↓Nat.reduceEqDiff, Nat.reduceBEq, ↓reduceIte, St.toRS, restrict, initEnv, plainArgs, reduceCtorEq, Nat.reduceEqDiff, Nat.reduceAdd, Nat.reduceMul, Int.reduceLT, Int.reduceLE, Int.reduceEq, Int.reduceNeg, Int.reduceAdd, Int.reduceToNat, Int.reduceNe, Nat.reduceSub, Int.reducePow, Int.reduceMul, vb0, vb1, vb2, vb3, vb4, vb5, vb6, vb7, f_wire_Span, h1, hlen, List.getElem?_cons_zero, List.getElem?_cons_succ]
theorem getChunk_spec (b : List UInt8) (a : Nat) (hb : b.length ≤ 2097152) (ha : a ≤ b.length) : C M 29 [.d (.slice 1 (bytesD b)), .d (.int .i64 a)] = some (ckD (ckP b a)) := by
  rw [c_fn (sf := f_wire_GetChunk) rfl rfl ⟨rfl, rfl⟩]
  have h1 := span_spec b a hb ha
  have ok := gvF_ok b a 10 0 0 (by omega) (by omega)
  have hlen := bytesD_length (s := b)
  simp only [ckP, ckD]
  generalize gvF b a 10 0 0 = r at *
  obtain ⟨n, t, e⟩ := r
  simp only at ok h1 ⊢
  obtain ⟨o1, o2, o3⟩ := ok
  by_cases he : e = 0
  · subst he
    rw [if_neg (by simp)] at h1 ⊢
    by_cases hn : b.length - t < n
    · rw [if_pos hn] at h1 ⊢
      simp -implicitDefEqProofs (maxSteps := 1000000) (disch := omega) only [↓Int.reduceLT, ↓Int.reduceLE, ↓Int.reduceEq, ↓Nat.reduceEqDiff, Nat.reduceBEq, ↓reduceIte, St.toRS, restrict, initEnv, plainArgs, reduceCtorEq, Nat.reduceEqDiff, Nat.reduceAdd, Nat.reduceMul, Int.reduceLT, Int.reduceLE, Int.reduceEq, Int.reduceNeg, Int.reduceAdd, Int.reduceToNat, Int.reduceNe, Nat.reduceSub, Int.reducePow, Int.reduceMul, vb0, vb1, vb2, vb3, vb4, vb5, vb6, vb7, f_wire_GetChunk, h1, hlen, List.getElem?_cons_zero, List.getElem?_cons_succ, bytesD_nil]
    · rw [if_neg hn] at h1 ⊢
      have hl2 : (List.drop t (List.take (t + n) b)).length = n := by simp; omega
      have hl3 := bytesD_length (s := List.drop t (List.take (t + n) b))
      simp -implicitDefEqProofs (maxSteps := 1000000) (disch := omega) only [↓Int.reduceLT, ↓Int.reduceLE, ↓Int.reduceEq, ↓Nat.reduceEqDiff, Nat.reduceBEq, ↓reduceIte, St.toRS, restrict, initEnv, plainArgs, reduceCtorEq, Nat.reduceEqDiff, Nat.reduceAdd, Nat.reduceMul, Int.reduceLT, Int.reduceLE, Int.reduceEq, Int.reduceNeg, Int.reduceAdd, Int.reduceToNat, Int.reduceNe, Nat.reduceSub, Int.reducePow, Int.reduceMul, vb0, vb1, vb2, vb3, vb4, vb5, vb6, vb7, f_wire_GetChunk, h1, hlen, List.getElem?_cons_zero, List.getElem?_cons_succ, bytesD_nil, D.cells, bytesD_take, bytesD_drop, hl2, hl3, List.nil_append, List.replicate_zero]
  · rw [if_pos he] at h1 ⊢
    simp -implicitDefEqProofs (maxSteps := 1000000) (disch := omega) only [↓Int.reduceLT, ↓Int.reduceLE, ↓Int.reduceEq, ↓Nat.reduceEqDiff, Nat.reduceBEq, ↓reduceIte, St.toRS, restrict, initEnv, plainArgs, reduceCtorEq, Nat.reduceEqDiff, Nat.reduceAdd, Nat.reduceMul, Int.reduceLT, Int.reduceLE, Int.reduceEq, Int.reduceNeg, Int.reduceAdd, Int.reduceToNat, Int.reduceNe, Nat.reduceSub, Int.reducePow, Int.reduceMul, vb0, vb1, vb2, vb3, vb4, vb5, vb6, vb7, f_wire_GetChunk, h1, hlen, List.getElem?_cons_zero, List.getElem?_cons_succ, bytesD_nil]
/-! ### Words -/
def leF (b : List UInt8) (a : Nat) : Nat → Nat
  | 0 => 0
  | i + 1 => leF b a i + (b.getD (a + i) 0).toNat * 2 ^ (8 * i)
theorem leF_lt (b : List UInt8) (a : Nat) : ∀ i, leF b a i < 2 ^ (8 * i)
  | 0 => by simp [leF]
  | i + 1 => by
    have h1 := leF_lt b a i
    have h2 := (b.getD (a + i) 0).toNat_lt
    rw [leF, show 8 * (i + 1) = 8 * i + 8 by omega, Nat.pow_add]
    have h3 : (b.getD (a + i) 0).toNat * 2 ^ (8 * i) ≤ 255 * 2 ^ (8 * i) := Nat.mul_le_mul_right _ (by omega)
    omega
theorem or_add {n i c : Nat} (h : n < 2 ^ i) : n ||| c * 2 ^ i = n + c * 2 ^ i := by
  have := Nat.two_pow_add_eq_or_of_lt h c
  rw [Nat.mul_comm c, Nat.or_comm, ← this, Nat.add_comm]
def rd_st (b : List UInt8) (a s i n : Nat) : St := { env := [(0, .d (.slice 1 (bytesD b))), (1, .d (.int .i64 a)), (2, .d (.int .i64 s)), (6, .d (.int .u64 n)), (22, .d (.int .i64 s)), (23, .d (.int .i64 i))], bx := [] }
theorem rd_loop (b : List UInt8) (a s : Nat) (hb : b.length ≤ 2097152) (hs : s ≤ 8) (ha : a + s ≤ b.length) : ∀ (f i : Nat), i ≤ s → s - i ≤ f →
    X M (.loop l_wire_read_1) (rd_st b a s i (leF b a i)) = some (.exit 1, { env := [(0, .d (.slice 1 (bytesD b))), (1, .d (.int .i64 a)), (2, .d (.int .i64 s)), (6, .d (.int .u64 (leF b a s : Nat))), (22, .d (.int .i64 s)), (23, .d (.int .i64 s)), (24, .d (.bool false))], bx := [] }) := by
  have hlen := bytesD_length (s := b)
  have stop : X M (.loop l_wire_read_1) (rd_st b a s s (leF b a s)) = some (.exit 1, { env := [(0, .d (.slice 1 (bytesD b))), (1, .d (.int .i64 a)), (2, .d (.int .i64 s)), (6, .d (.int .u64 (leF b a s : Nat))), (22, .d (.int .i64 s)), (23, .d (.int .i64 s)), (24, .d (.bool false))], bx := [] }) := by
    refine loop_exit ?_ (by simp)
    generalize leF b a s = n
    simp -implicitDefEqProofs (maxSteps := 1000000) (disch := omega) only [↓Int.reduceLT, ↓Int.reduceLE, ↓Int.reduceEq, ↓Nat.reduceEqDiff, Nat.reduceBEq, ↓reduceIte, St.toRS, restrict, initEnv, plainArgs, reduceCtorEq, Nat.reduceEqDiff, Nat.reduceAdd, Nat.reduceMul, Int.reduceLT, Int.reduceLE, Int.reduceEq, Int.reduceNeg, Int.reduceAdd, Int.reduceToNat, Int.reduceNe, Nat.reduceSub, Int.reducePow, Int.reduceMul, vb0, vb1, vb2, vb3, vb4, vb5, vb6, vb7, l_wire_read_1, rd_st]
  intro f
  induction f with
  | zero => intro i h1 h2; obtain rfl : i = s := by omega
            exact stop
  | succ f ih =>
    intro i h1 h2
    by_cases h : i = s
    · subst h; exact stop
    · have hlt : a + i < b.length := by omega
      have hg : (bytesD b)[a + i]? = some (.int .u8 ((b[a + i]).toNat : Int)) := by rw [bytesD_get, List.getElem?_eq_getElem hlt]; rfl
      have hd : b.getD (a + i) 0 = b[a + i] := by simp [List.getD, hlt]
      have hc := (b[a + i]).toNat_lt
      have l1 := leF_lt b a i
      have l2 := leF_lt b a (i + 1)
      have p2 : 2 ^ (8 * (i + 1)) ≤ 2 ^ 64 := Nat.pow_le_pow_right (by omega) (by omega)
      have p1 : 2 ^ (8 * i) ≤ 2 ^ 64 := Nat.pow_le_pow_right (by omega) (by omega)
      have hle : leF b a (i + 1) = leF b a i + b[a + i].toNat * 2 ^ (8 * i) := by rw [leF, hd]
      have w1 : IntKind.u64.wrap ((b[a + i].toNat * 2 ^ (8 * i) : Nat) : Int) = ((b[a + i].toNat * 2 ^ (8 * i) : Nat) : Int) := wrap_u64_nat (by omega)
      have w2 : bitsD .or .u64 ((leF b a i : Nat) : Int) ((b[a + i].toNat * 2 ^ (8 * i) : Nat) : Int) = ((leF b a (i + 1) : Nat) : Int) := by
        rw [or_u64 (by omega) (by omega), or_add l1, hle]
      have w4 := sh_8i (i := i) (by omega)
      have w5 := mul_pow (b[a + i].toNat) (8 * i)
      have hr : X M l_wire_read_1 (rd_st b a s i (leF b a i)) = some (.norm, rd_st b a s (i + 1) (leF b a (i + 1))) := by
        clear hle l1 l2 p1 p2 hd
        generalize (b[a + i]).toNat = c at *
        generalize c * 2 ^ (8 * i) = p' at *
        generalize leF b a (i + 1) = m at *
        generalize leF b a i = n at *
        simp -implicitDefEqProofs (maxSteps := 1000000) (disch := omega) only [↓Int.reduceLT, ↓Int.reduceLE, ↓Int.reduceEq, ↓Nat.reduceEqDiff, Nat.reduceBEq, ↓reduceIte, St.toRS, restrict, initEnv, plainArgs, reduceCtorEq, Nat.reduceEqDiff, Nat.reduceAdd, Nat.reduceMul, Int.reduceLT, Int.reduceLE, Int.reduceEq, Int.reduceNeg, Int.reduceAdd, Int.reduceToNat, Int.reduceNe, Nat.reduceSub, Int.reducePow, Int.reduceMul, vb0, vb1, vb2, vb3, vb4, vb5, vb6, vb7, l_wire_read_1, rd_st, hg, hlen, up_8i, w1, w2, w4, w5]
      rw [X_loop, hr]
      simp only [andThen]
      exact ih (i + 1) (by omega) (by omega)
/-- A word of so many bytes: the number, the place behind it, the error. -/
def rdP (b : List UInt8) (a s : Nat) : Nat × Nat × Nat := if b.length - a < s then (0, 0, 3) else (leF b a s, a + s, 0)
theorem read_spec (b : List UInt8) (a s : Nat) (hb : b.length ≤ 2097152) (ha : a ≤ b.length) (hs : s ≤ 8) : C M 55 [.d (.slice 1 (bytesD b)), .d (.int .i64 a), .d (.int .i64 s)] = some (gvD (rdP b a s)) := by
  rw [c_fn (sf := f_wire_read) rfl rfl ⟨rfl, rfl⟩]
  have hp := place_spec b a hb
  have e : decide ((0 : Int) ≤ a ∧ (a : Int) ≤ b.length) = true := by simp; omega
  have hlen := bytesD_length (s := b)
  rw [e] at hp
  clear e
  simp only [rdP]
  by_cases h : b.length - a < s
  · rw [if_pos h]
    simp -implicitDefEqProofs (maxSteps := 1000000) (disch := omega) only [↓Int.reduceLT, ↓Int.reduceLE, ↓Int.reduceEq, ↓Nat.reduceEqDiff, Nat.reduceBEq, ↓reduceIte, St.toRS, restrict, initEnv, plainArgs, reduceCtorEq, Nat.reduceEqDiff, Nat.reduceAdd, Nat.reduceMul, Int.reduceLT, Int.reduceLE, Int.reduceEq, Int.reduceNeg, Int.reduceAdd, Int.reduceToNat, Int.reduceNe, Nat.reduceSub, Int.reducePow, Int.reduceMul, vb0, vb1, vb2, vb3, vb4, vb5, vb6, vb7, f_wire_read, hp, hlen, gvD]
  · rw [if_neg h]
    have hl := rd_loop b a s hb hs (by omega) 8 0 (by omega) (by omega)
    simp only [rd_st, Int.cast_ofNat_Int, show leF b a 0 = 0 from rfl] at hl
    generalize leF b a s = n at *
    simp -implicitDefEqProofs (maxSteps := 1000000) (disch := omega) only [↓Int.reduceLT, ↓Int.reduceLE, ↓Int.reduceEq, ↓Nat.reduceEqDiff, Nat.reduceBEq, ↓reduceIte, St.toRS, restrict, initEnv, plainArgs, reduceCtorEq, Nat.reduceEqDiff, Nat.reduceAdd, Nat.reduceMul, Int.reduceLT, Int.reduceLE, Int.reduceEq, Int.reduceNeg, Int.reduceAdd, Int.reduceToNat, Int.reduceNe, Nat.reduceSub, Int.reducePow, Int.reduceMul, vb0, vb1, vb2, vb3, vb4, vb5, vb6, vb7, f_wire_read, hp, hlen, gvD, hl]
theorem read_out (b : List UInt8) (a : Int) (s : Nat) (hb : b.length ≤ 2097152) (ha : a < 0 ∨ b.length < a) : C M 55 [.d (.slice 1 (bytesD b)), .d (.int .i64 a), .d (.int .i64 s)] = some (.tup [.int .u64 0, .int .i64 0, .int .i64 18]) := by
  rw [c_fn (sf := f_wire_read) rfl rfl ⟨rfl, rfl⟩]
  have hp := place_spec b a hb
  have e : decide ((0 : Int) ≤ a ∧ (a : Int) ≤ b.length) = false := by simp; omega
  rw [e] at hp
  simp -implicitDefEqProofs (maxSteps := 1000000) (disch := omega) only [↓Int.reduceLT, ↓Int.reduceLE, ↓Int.reduceEq, ↓Nat.reduceEqDiff, Nat.reduceBEq, ↓reduceIte, St.toRS, restrict, initEnv, plainArgs, reduceCtorEq, Nat.reduceEqDiff, Nat.reduceAdd, Nat.reduceMul, Int.reduceLT, Int.reduceLE, Int.reduceEq, Int.reduceNeg, Int.reduceAdd, Int.reduceToNat, Int.reduceNe, Nat.reduceSub, Int.reducePow, Int.reduceMul, vb0, vb1, vb2, vb3, vb4, vb5, vb6, vb7, f_wire_read, hp]

/-! ### The reference's -/
def hiF (b : List UInt8) (a s : Nat) : Nat → Nat
  | 0 => 0
  | m + 1 => hiF b a s m * 256 + (b.getD (a + (s - 1 - m)) 0).toNat
theorem hi_le (b : List UInt8) (a s : Nat) : ∀ m, m ≤ s → leF b a s = leF b a (s - m) + hiF b a s m * 2 ^ (8 * (s - m))
  | 0, _ => by simp [hiF]
  | m + 1, h => by
    rw [hi_le b a s m (by omega), hiF]
    obtain ⟨j, hj⟩ : ∃ j, s - m = j + 1 := ⟨s - m - 1, by omega⟩
    have e8 : (2 : Nat) ^ 8 = 256 := rfl
    rw [show s - (m + 1) = j by omega, hj, show s - 1 - m = j by omega, leF, show 8 * (j + 1) = 8 * j + 8 by omega, Nat.pow_add, e8, Nat.add_mul, Nat.mul_assoc, Nat.mul_comm 256 (2 ^ (8 * j))]
    omega
theorem hi_all (b : List UInt8) (a s : Nat) : hiF b a s s = leF b a s := by
  rw [hi_le b a s s (Nat.le_refl s)]
  simp [leF]
theorem hiF_lt (b : List UInt8) (a s : Nat) : ∀ m, hiF b a s m < 2 ^ (8 * m)
  | 0 => by simp [hiF]
  | m + 1 => by
    have h1 := hiF_lt b a s m
    have h2 := (b.getD (a + (s - 1 - m)) 0).toNat_lt
    rw [hiF, show 8 * (m + 1) = 8 * m + 8 by omega, Nat.pow_add]
    omega
def rrd_st (b : List UInt8) (a s : Nat) (k : Int) (n : Nat) : St := { env := [(0, .d (.slice 1 (bytesD b))), (1, .d (.int .i64 a)), (2, .d (.int .i64 s)), (9, .d (.int .u64 n)), (10, .d (.int .i64 k))], bx := [] }
theorem getFix64_spec (b : List UInt8) (a : Nat) (hb : b.length ≤ 2097152) (ha : a ≤ b.length) : C M 31 [.d (.slice 1 (bytesD b)), .d (.int .i64 a)] = some (gvD (rdP b a 8)) := by
  rw [c_fn (sf := f_wire_GetFix64) rfl rfl ⟨rfl, rfl⟩]
  have h1 := read_spec b a 8 hb ha (by omega)
  simp only [Int.cast_ofNat_Int, gvD] at h1
  generalize rdP b a 8 = r at *
  simp -implicitDefEqProofs (maxSteps := 1000000) (disch := omega) only [↓Int.reduceLT, ↓Int.reduceLE, ↓Int.reduceEq, ↓Nat.reduceEqDiff, Nat.reduceBEq, ↓reduceIte, St.toRS, restrict, initEnv, plainArgs, reduceCtorEq, Nat.reduceEqDiff, Nat.reduceAdd, Nat.reduceMul, Int.reduceLT, Int.reduceLE, Int.reduceEq, Int.reduceNeg, Int.reduceAdd, Int.reduceToNat, Int.reduceNe, Nat.reduceSub, Int.reducePow, Int.reduceMul, vb0, vb1, vb2, vb3, vb4, vb5, vb6, vb7, f_wire_GetFix64, h1, gvD, List.getElem?_cons_zero, List.getElem?_cons_succ]
theorem getFix32_spec (b : List UInt8) (a : Nat) (hb : b.length ≤ 2097152) (ha : a ≤ b.length) : C M 30 [.d (.slice 1 (bytesD b)), .d (.int .i64 a)] = some (.tup [.int .u32 (rdP b a 4).1, .int .i64 (rdP b a 4).2.1, .int .i64 (rdP b a 4).2.2]) := by
  rw [c_fn (sf := f_wire_GetFix32) rfl rfl ⟨rfl, rfl⟩]
  have h1 := read_spec b a 4 hb ha (by omega)
  have h2 : (rdP b a 4).1 < 4294967296 := by
    have := leF_lt b a 4
    simp only [rdP]; split <;> simp only <;> omega
  simp only [Int.cast_ofNat_Int, gvD] at h1
  generalize rdP b a 4 = r at *
  simp -implicitDefEqProofs (maxSteps := 1000000) (disch := omega) only [↓Int.reduceLT, ↓Int.reduceLE, ↓Int.reduceEq, ↓Nat.reduceEqDiff, Nat.reduceBEq, ↓reduceIte, St.toRS, restrict, initEnv, plainArgs, reduceCtorEq, Nat.reduceEqDiff, Nat.reduceAdd, Nat.reduceMul, Int.reduceLT, Int.reduceLE, Int.reduceEq, Int.reduceNeg, Int.reduceAdd, Int.reduceToNat, Int.reduceNe, Nat.reduceSub, Int.reducePow, Int.reduceMul, vb0, vb1, vb2, vb3, vb4, vb5, vb6, vb7, f_wire_GetFix32, h1, List.getElem?_cons_zero, List.getElem?_cons_succ]
/-! ### No such place -/
theorem getChunk_out (b : List UInt8) (a : Int) (hb : b.length ≤ 2097152) (ha : a < 0 ∨ b.length < a) : C M 29 [.d (.slice 1 (bytesD b)), .d (.int .i64 a)] = some (.tup [.slice 1 [], .int .i64 0, .int .i64 18]) := by
  have h0 := getVarint_out b a hb ha
  have h1 : C M 54 [.d (.slice 1 (bytesD b)), .d (.int .i64 a)] = some (.tup [.int .i64 0, .int .i64 0, .int .i64 18]) := by
    rw [c_fn (sf := f_wire_Span) rfl rfl ⟨rfl, rfl⟩]
    simp -implicitDefEqProofs (maxSteps := 1000000) (disch := omega) only [↓Int.reduceLT, ↓Int.reduceLE, ↓Int.reduceEq, ↓Nat.reduceEqDiff, Nat.reduceBEq, ↓reduceIte, St.toRS, restrict, initEnv, plainArgs, reduceCtorEq, Nat.reduceEqDiff, Nat.reduceAdd, Nat.reduceMul, Int.reduceLT, Int.reduceLE, Int.reduceEq, Int.reduceNeg, Int.reduceAdd, Int.reduceToNat, Int.reduceNe, Nat.reduceSub, Int.reducePow, Int.reduceMul, vb0, vb1, vb2, vb3, vb4, vb5, vb6, vb7, f_wire_Span, h0, List.getElem?_cons_zero, List.getElem?_cons_succ]
  rw [c_fn (sf := f_wire_GetChunk) rfl rfl ⟨rfl, rfl⟩]
  simp -implicitDefEqProofs (maxSteps := 1000000) (disch := omega) only [↓Int.reduceLT, ↓Int.reduceLE, ↓Int.reduceEq, ↓Nat.reduceEqDiff, Nat.reduceBEq, ↓reduceIte, St.toRS, restrict, initEnv, plainArgs, reduceCtorEq, Nat.reduceEqDiff, Nat.reduceAdd, Nat.reduceMul, Int.reduceLT, Int.reduceLE, Int.reduceEq, Int.reduceNeg, Int.reduceAdd, Int.reduceToNat, Int.reduceNe, Nat.reduceSub, Int.reducePow, Int.reduceMul, vb0, vb1, vb2, vb3, vb4, vb5, vb6, vb7, f_wire_GetChunk, h1, List.getElem?_cons_zero, List.getElem?_cons_succ]
theorem getFix64_out (b : List UInt8) (a : Int) (hb : b.length ≤ 2097152) (ha : a < 0 ∨ b.length < a) : C M 31 [.d (.slice 1 (bytesD b)), .d (.int .i64 a)] = some (.tup [.int .u64 0, .int .i64 0, .int .i64 18]) := by
  have h1 := read_out b a 8 hb ha
  simp only [Int.cast_ofNat_Int] at h1
  rw [c_fn (sf := f_wire_GetFix64) rfl rfl ⟨rfl, rfl⟩]
  simp -implicitDefEqProofs (maxSteps := 1000000) (disch := omega) only [↓Int.reduceLT, ↓Int.reduceLE, ↓Int.reduceEq, ↓Nat.reduceEqDiff, Nat.reduceBEq, ↓reduceIte, St.toRS, restrict, initEnv, plainArgs, reduceCtorEq, Nat.reduceEqDiff, Nat.reduceAdd, Nat.reduceMul, Int.reduceLT, Int.reduceLE, Int.reduceEq, Int.reduceNeg, Int.reduceAdd, Int.reduceToNat, Int.reduceNe, Nat.reduceSub, Int.reducePow, Int.reduceMul, vb0, vb1, vb2, vb3, vb4, vb5, vb6, vb7, f_wire_GetFix64, h1, List.getElem?_cons_zero, List.getElem?_cons_succ]
theorem getFix32_out (b : List UInt8) (a : Int) (hb : b.length ≤ 2097152) (ha : a < 0 ∨ b.length < a) : C M 30 [.d (.slice 1 (bytesD b)), .d (.int .i64 a)] = some (.tup [.int .u32 0, .int .i64 0, .int .i64 18]) := by
  have h1 := read_out b a 4 hb ha
  simp only [Int.cast_ofNat_Int] at h1
  rw [c_fn (sf := f_wire_GetFix32) rfl rfl ⟨rfl, rfl⟩]
  simp -implicitDefEqProofs (maxSteps := 1000000) (disch := omega) only [↓Int.reduceLT, ↓Int.reduceLE, ↓Int.reduceEq, ↓Nat.reduceEqDiff, Nat.reduceBEq, ↓reduceIte, St.toRS, restrict, initEnv, plainArgs, reduceCtorEq, Nat.reduceEqDiff, Nat.reduceAdd, Nat.reduceMul, Int.reduceLT, Int.reduceLE, Int.reduceEq, Int.reduceNeg, Int.reduceAdd, Int.reduceToNat, Int.reduceNe, Nat.reduceSub, Int.reducePow, Int.reduceMul, vb0, vb1, vb2, vb3, vb4, vb5, vb6, vb7, f_wire_GetFix32, h1, List.getElem?_cons_zero, List.getElem?_cons_succ]
end Go.Proofs.YtedncpnkbpbchaaGreatDoor
