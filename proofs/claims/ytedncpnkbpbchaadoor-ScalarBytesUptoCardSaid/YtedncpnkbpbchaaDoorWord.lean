/-
  Sizes, fixed words, chunks and signs: what the program and the reference put, over data.
-/
import Derived.Test.YtedncpnkbpbchaaDoorVar
set_option linter.unusedVariables false
set_option linter.unusedSimpArgs false
set_option maxRecDepth 100000
set_option maxHeartbeats 8000000
namespace Go.Proofs.YtedncpnkbpbchaaDoor
open Go.Vi
variable {q : Bool}

def lenTab : List UInt8 := [0, 1, 2, 2, 3, 3, 3, 3, 4, 4, 4, 4, 4, 4, 4, 4, 5, 5, 5, 5, 5, 5, 5, 5, 5, 5, 5, 5, 5, 5, 5, 5, 6, 6, 6, 6, 6, 6, 6, 6, 6, 6, 6, 6, 6, 6, 6, 6, 6, 6, 6, 6, 6, 6, 6, 6, 6, 6, 6, 6, 6, 6, 6, 6, 7, 7, 7, 7, 7, 7, 7, 7, 7, 7, 7, 7, 7, 7, 7, 7, 7, 7, 7, 7, 7, 7, 7, 7, 7, 7, 7, 7, 7, 7, 7, 7, 7, 7, 7, 7, 7, 7, 7, 7, 7, 7, 7, 7, 7, 7, 7, 7, 7, 7, 7, 7, 7, 7, 7, 7, 7, 7, 7, 7, 7, 7, 7, 7, 8, 8, 8, 8, 8, 8, 8, 8, 8, 8, 8, 8, 8, 8, 8, 8, 8, 8, 8, 8, 8, 8, 8, 8, 8, 8, 8, 8, 8, 8, 8, 8, 8, 8, 8, 8, 8, 8, 8, 8, 8, 8, 8, 8, 8, 8, 8, 8, 8, 8, 8, 8, 8, 8, 8, 8, 8, 8, 8, 8, 8, 8, 8, 8, 8, 8, 8, 8, 8, 8, 8, 8, 8, 8, 8, 8, 8, 8, 8, 8, 8, 8, 8, 8, 8, 8, 8, 8, 8, 8, 8, 8, 8, 8, 8, 8, 8, 8, 8, 8, 8, 8, 8, 8, 8, 8, 8, 8, 8, 8, 8, 8, 8, 8, 8, 8, 8, 8, 8, 8, 8, 8, 8, 8, 8, 8, 8, 8]
theorem lenTab_ok : ∀ m : Fin 256, ∃ c, lenTab[m.val]? = some c ∧ c.toNat ≤ 8 := by decide +kernel
theorem len64_spec (n : Nat) (hn : n < 18446744073709551616) : ∃ L : Nat, C (M q) 73 [.d (.int .u64 n)] = some (.d (.int .i64 L)) ∧ L ≤ 64 := by
  rw [c_fn (sf := f_math_bits_Len64) rfl rfl ⟨rfl, rfl⟩]
  have e32 : ∀ n : Nat, (n : Int).fdiv 4294967296 = ((n / 4294967296 : Nat) : Int) := fun n => fdiv_nat
  have e16 : ∀ n : Nat, (n : Int).fdiv 65536 = ((n / 65536 : Nat) : Int) := fun n => fdiv_nat
  have e8 : ∀ n : Nat, (n : Int).fdiv 256 = ((n / 256 : Nat) : Int) := fun n => fdiv_nat
  have key : ∀ m : Nat, m < 256 → ∃ c, lenTab[m]? = some c ∧ c.toNat ≤ 8 := fun m h => lenTab_ok ⟨m, h⟩
  by_cases h1 : 4294967296 ≤ n
  · by_cases h2 : 65536 ≤ n / 4294967296
    · by_cases h3 : 256 ≤ n / 4294967296 / 65536
      · obtain ⟨c, hc, hl⟩ := key (n / 4294967296 / 65536 / 256) (by omega)
        refine ⟨32 + 16 + 8 + c.toNat, ?_, by omega⟩
        simp only [lenTab] at hc
        simp -implicitDefEqProofs (maxSteps := 1000000) (disch := omega) only [↓Int.reduceLT, ↓Int.reduceLE, ↓Int.reduceEq, ↓Nat.reduceEqDiff, Nat.reduceBEq, ↓reduceIte, St.toRS, restrict, initEnv, plainArgs, reduceCtorEq, Nat.reduceEqDiff, Nat.reduceAdd, Nat.reduceMul, Int.reduceLT, Int.reduceLE, Int.reduceEq, Int.reduceNeg, Int.reduceAdd, Int.reduceToNat, Int.reduceNe, Nat.reduceSub, Int.reducePow, Int.reduceMul, vb0, vb1, vb2, vb3, vb4, vb5, vb6, vb7, f_math_bits_Len64, e32, e16, e8, hc]
        rfl
      · obtain ⟨c, hc, hl⟩ := key (n / 4294967296 / 65536) (by omega)
        refine ⟨32 + 16 + c.toNat, ?_, by omega⟩
        simp only [lenTab] at hc
        simp -implicitDefEqProofs (maxSteps := 1000000) (disch := omega) only [↓Int.reduceLT, ↓Int.reduceLE, ↓Int.reduceEq, ↓Nat.reduceEqDiff, Nat.reduceBEq, ↓reduceIte, St.toRS, restrict, initEnv, plainArgs, reduceCtorEq, Nat.reduceEqDiff, Nat.reduceAdd, Nat.reduceMul, Int.reduceLT, Int.reduceLE, Int.reduceEq, Int.reduceNeg, Int.reduceAdd, Int.reduceToNat, Int.reduceNe, Nat.reduceSub, Int.reducePow, Int.reduceMul, vb0, vb1, vb2, vb3, vb4, vb5, vb6, vb7, f_math_bits_Len64, e32, e16, e8, hc]
        rfl
    · by_cases h3 : 256 ≤ n / 4294967296
      · obtain ⟨c, hc, hl⟩ := key (n / 4294967296 / 256) (by omega)
        refine ⟨32 + 8 + c.toNat, ?_, by omega⟩
        simp only [lenTab] at hc
        simp -implicitDefEqProofs (maxSteps := 1000000) (disch := omega) only [↓Int.reduceLT, ↓Int.reduceLE, ↓Int.reduceEq, ↓Nat.reduceEqDiff, Nat.reduceBEq, ↓reduceIte, St.toRS, restrict, initEnv, plainArgs, reduceCtorEq, Nat.reduceEqDiff, Nat.reduceAdd, Nat.reduceMul, Int.reduceLT, Int.reduceLE, Int.reduceEq, Int.reduceNeg, Int.reduceAdd, Int.reduceToNat, Int.reduceNe, Nat.reduceSub, Int.reducePow, Int.reduceMul, vb0, vb1, vb2, vb3, vb4, vb5, vb6, vb7, f_math_bits_Len64, e32, e16, e8, hc]
        rfl
      · obtain ⟨c, hc, hl⟩ := key (n / 4294967296) (by omega)
        refine ⟨32 + c.toNat, ?_, by omega⟩
        simp only [lenTab] at hc
        simp -implicitDefEqProofs (maxSteps := 1000000) (disch := omega) only [↓Int.reduceLT, ↓Int.reduceLE, ↓Int.reduceEq, ↓Nat.reduceEqDiff, Nat.reduceBEq, ↓reduceIte, St.toRS, restrict, initEnv, plainArgs, reduceCtorEq, Nat.reduceEqDiff, Nat.reduceAdd, Nat.reduceMul, Int.reduceLT, Int.reduceLE, Int.reduceEq, Int.reduceNeg, Int.reduceAdd, Int.reduceToNat, Int.reduceNe, Nat.reduceSub, Int.reducePow, Int.reduceMul, vb0, vb1, vb2, vb3, vb4, vb5, vb6, vb7, f_math_bits_Len64, e32, e16, e8, hc]
        rfl
  · by_cases h2 : 65536 ≤ n
    · by_cases h3 : 256 ≤ n / 65536
      · obtain ⟨c, hc, hl⟩ := key (n / 65536 / 256) (by omega)
        refine ⟨16 + 8 + c.toNat, ?_, by omega⟩
        simp only [lenTab] at hc
        simp -implicitDefEqProofs (maxSteps := 1000000) (disch := omega) only [↓Int.reduceLT, ↓Int.reduceLE, ↓Int.reduceEq, ↓Nat.reduceEqDiff, Nat.reduceBEq, ↓reduceIte, St.toRS, restrict, initEnv, plainArgs, reduceCtorEq, Nat.reduceEqDiff, Nat.reduceAdd, Nat.reduceMul, Int.reduceLT, Int.reduceLE, Int.reduceEq, Int.reduceNeg, Int.reduceAdd, Int.reduceToNat, Int.reduceNe, Nat.reduceSub, Int.reducePow, Int.reduceMul, vb0, vb1, vb2, vb3, vb4, vb5, vb6, vb7, f_math_bits_Len64, e32, e16, e8, hc]
        rfl
      · obtain ⟨c, hc, hl⟩ := key (n / 65536) (by omega)
        refine ⟨16 + c.toNat, ?_, by omega⟩
        simp only [lenTab] at hc
        simp -implicitDefEqProofs (maxSteps := 1000000) (disch := omega) only [↓Int.reduceLT, ↓Int.reduceLE, ↓Int.reduceEq, ↓Nat.reduceEqDiff, Nat.reduceBEq, ↓reduceIte, St.toRS, restrict, initEnv, plainArgs, reduceCtorEq, Nat.reduceEqDiff, Nat.reduceAdd, Nat.reduceMul, Int.reduceLT, Int.reduceLE, Int.reduceEq, Int.reduceNeg, Int.reduceAdd, Int.reduceToNat, Int.reduceNe, Nat.reduceSub, Int.reducePow, Int.reduceMul, vb0, vb1, vb2, vb3, vb4, vb5, vb6, vb7, f_math_bits_Len64, e32, e16, e8, hc]
        rfl
    · by_cases h3 : 256 ≤ n
      · obtain ⟨c, hc, hl⟩ := key (n / 256) (by omega)
        refine ⟨8 + c.toNat, ?_, by omega⟩
        simp only [lenTab] at hc
        simp -implicitDefEqProofs (maxSteps := 1000000) (disch := omega) only [↓Int.reduceLT, ↓Int.reduceLE, ↓Int.reduceEq, ↓Nat.reduceEqDiff, Nat.reduceBEq, ↓reduceIte, St.toRS, restrict, initEnv, plainArgs, reduceCtorEq, Nat.reduceEqDiff, Nat.reduceAdd, Nat.reduceMul, Int.reduceLT, Int.reduceLE, Int.reduceEq, Int.reduceNeg, Int.reduceAdd, Int.reduceToNat, Int.reduceNe, Nat.reduceSub, Int.reducePow, Int.reduceMul, vb0, vb1, vb2, vb3, vb4, vb5, vb6, vb7, f_math_bits_Len64, e32, e16, e8, hc]
        rfl
      · obtain ⟨c, hc, hl⟩ := key n (by omega)
        refine ⟨c.toNat, ?_, by omega⟩
        simp only [lenTab] at hc
        simp -implicitDefEqProofs (maxSteps := 1000000) (disch := omega) only [↓Int.reduceLT, ↓Int.reduceLE, ↓Int.reduceEq, ↓Nat.reduceEqDiff, Nat.reduceBEq, ↓reduceIte, St.toRS, restrict, initEnv, plainArgs, reduceCtorEq, Nat.reduceEqDiff, Nat.reduceAdd, Nat.reduceMul, Int.reduceLT, Int.reduceLE, Int.reduceEq, Int.reduceNeg, Int.reduceAdd, Int.reduceToNat, Int.reduceNe, Nat.reduceSub, Int.reducePow, Int.reduceMul, vb0, vb1, vb2, vb3, vb4, vb5, vb6, vb7, f_math_bits_Len64, e32, e16, e8, hc, Int.zero_add]
theorem size_spec (n : Nat) (hn : n < 18446744073709551616) : ∃ s : Nat, C (M q) 61 [.d (.int .u64 n)] = some (.d (.int .i64 s)) ∧ s ≤ 10 := by
  obtain ⟨L, h1, h2⟩ := len64_spec (q := q) n hn
  rw [c_fn (sf := f_wire_Size) rfl rfl ⟨rfl, rfl⟩]
  have e7 : ∀ n : Nat, (n : Int).tdiv 7 = ((n / 7 : Nat) : Int) := fun n => tdiv_nat
  by_cases h : 1 < L
  · refine ⟨(L + 7 - 1) / 7, ?_, by omega⟩
    simp -implicitDefEqProofs (maxSteps := 1000000) (disch := omega) only [↓Int.reduceLT, ↓Int.reduceLE, ↓Int.reduceEq, ↓Nat.reduceEqDiff, Nat.reduceBEq, ↓reduceIte, St.toRS, restrict, initEnv, plainArgs, reduceCtorEq, Nat.reduceEqDiff, Nat.reduceAdd, Nat.reduceMul, Int.reduceLT, Int.reduceLE, Int.reduceEq, Int.reduceNeg, Int.reduceAdd, Int.reduceToNat, Int.reduceNe, Nat.reduceSub, Int.reducePow, Int.reduceMul, vb0, vb1, vb2, vb3, vb4, vb5, vb6, vb7, f_wire_Size, h1, e7]
  · refine ⟨1, ?_, by omega⟩
    have e1 : IntKind.i64.wrap (((8 : Int) - 1).tdiv 7) = 1 := by decide
    simp -implicitDefEqProofs (maxSteps := 1000000) (disch := omega) only [↓Int.reduceLT, ↓Int.reduceLE, ↓Int.reduceEq, ↓Nat.reduceEqDiff, Nat.reduceBEq, ↓reduceIte, St.toRS, restrict, initEnv, plainArgs, reduceCtorEq, Nat.reduceEqDiff, Nat.reduceAdd, Nat.reduceMul, Int.reduceLT, Int.reduceLE, Int.reduceEq, Int.reduceNeg, Int.reduceAdd, Int.reduceToNat, Int.reduceNe, Nat.reduceSub, Int.reducePow, Int.reduceMul, vb0, vb1, vb2, vb3, vb4, vb5, vb6, vb7, f_wire_Size, h1, e7, e1]
theorem putVarint_spec (n : Nat) (hn : n < 18446744073709551616) : C (M q) 33 [.d (.int .u64 n)] = some (.own 1 (bytesD (vb n))) := by
  obtain ⟨s, h1, h2⟩ := size_spec (q := q) n hn
  have h3 := varint_spec (q := q) n hn [] (by simp)
  simp only [List.nil_append, bytesD_nil] at h3
  rw [c_fn (sf := f_wire_PutVarint) rfl rfl ⟨rfl, rfl⟩]
  simp -implicitDefEqProofs (maxSteps := 1000000) (disch := omega) only [↓Int.reduceLT, ↓Int.reduceLE, ↓Int.reduceEq, ↓Nat.reduceEqDiff, Nat.reduceBEq, ↓reduceIte, St.toRS, restrict, initEnv, plainArgs, reduceCtorEq, Nat.reduceEqDiff, Nat.reduceAdd, Nat.reduceMul, Int.reduceLT, Int.reduceLE, Int.reduceEq, Int.reduceNeg, Int.reduceAdd, Int.reduceToNat, Int.reduceNe, Nat.reduceSub, Int.reducePow, Int.reduceMul, vb0, vb1, vb2, vb3, vb4, vb5, vb6, vb7, f_wire_PutVarint, h1, h3, s_callM, e_ownO, D.cells]
theorem putChunk_spec (c : List UInt8) (hc : c.length ≤ 1048576) : C (M q) 30 [.d (.slice 1 (bytesD c))] = some (.own 1 (bytesD (vb c.length ++ c))) := by
  obtain ⟨s, h1, h2⟩ := size_spec (q := q) c.length (by omega)
  have h3 := varint_spec (q := q) c.length (by omega) [] (by simp)
  simp only [List.nil_append, bytesD_nil] at h3
  have hlen := bytesD_length (s := c)
  have hlen2 := bytesD_length (s := vb c.length)
  have h4 := vb_len c.length
  rw [c_fn (sf := f_wire_PutChunk) rfl rfl ⟨rfl, rfl⟩, bytesD_append]
  simp -implicitDefEqProofs (maxSteps := 1000000) (disch := omega) only [↓Int.reduceLT, ↓Int.reduceLE, ↓Int.reduceEq, ↓Nat.reduceEqDiff, Nat.reduceBEq, ↓reduceIte, St.toRS, restrict, initEnv, plainArgs, reduceCtorEq, Nat.reduceEqDiff, Nat.reduceAdd, Nat.reduceMul, Int.reduceLT, Int.reduceLE, Int.reduceEq, Int.reduceNeg, Int.reduceAdd, Int.reduceToNat, Int.reduceNe, Nat.reduceSub, Int.reducePow, Int.reduceMul, vb0, vb1, vb2, vb3, vb4, vb5, vb6, vb7, f_wire_PutChunk, h1, h3, s_callM, e_ownO, D.cells, hlen, hlen2]
theorem rputChunk_spec (c : List UInt8) (hc : c.length ≤ 1048576) : C (M q) 45 [.d (.slice 1 (bytesD c))] = some (.own 1 (bytesD (vb c.length ++ c))) := by
  have h3 := rputVarint_spec (q := q) c.length (by omega)
  have hlen := bytesD_length (s := c)
  have hlen2 := bytesD_length (s := vb c.length)
  have h4 := vb_len c.length
  rw [c_fn (sf := f_ref1_PutChunk) rfl rfl ⟨rfl, rfl⟩, bytesD_append]
  simp -implicitDefEqProofs (maxSteps := 1000000) (disch := omega) only [↓Int.reduceLT, ↓Int.reduceLE, ↓Int.reduceEq, ↓Nat.reduceEqDiff, Nat.reduceBEq, ↓reduceIte, St.toRS, restrict, initEnv, plainArgs, reduceCtorEq, Nat.reduceEqDiff, Nat.reduceAdd, Nat.reduceMul, Int.reduceLT, Int.reduceLE, Int.reduceEq, Int.reduceNeg, Int.reduceAdd, Int.reduceToNat, Int.reduceNe, Nat.reduceSub, Int.reducePow, Int.reduceMul, vb0, vb1, vb2, vb3, vb4, vb5, vb6, vb7, f_ref1_PutChunk, h3, hlen, hlen2]

/-! ### Words -/
def byteAt (n i : Nat) : UInt8 := UInt8.ofNat (n / 2 ^ (8 * i) % 256)
def wordL (s n : Nat) : List UInt8 := (List.range s).map (byteAt n)
theorem wordL_succ (s n : Nat) : wordL (s + 1) n = wordL s n ++ [byteAt n s] := by
  simp only [wordL, List.range_succ, List.map_append, List.map_cons, List.map_nil]
theorem wordL_len (s n : Nat) : (wordL s n).length = s := by simp [wordL]
theorem sh_8i {i : Nat} (h : i ≤ 8) : shAmt .u64 ((8 * i : Nat) : Int) = 8 * i := by
  simp only [shAmt, Int.toNat_natCast, IntKind.bits]
  omega
theorem fdiv_pow (n k : Nat) : (n : Int).fdiv (2 ^ k) = ((n / 2 ^ k : Nat) : Int) := by
  have : ((2 : Int) ^ k) = ((2 ^ k : Nat) : Int) := by simp
  rw [this, fdiv_nat]
theorem up_8i (i : Nat) : (8 : Int) * (i : Int) = ((8 * i : Nat) : Int) := rfl
theorem w_step (n i s : Nat) (hi : i < s) (hs : s ≤ 8) (hn : n < 18446744073709551616) (o : List UInt8) (ho : o.length < 140737488355328) :
    X (M q) l_wire_word_1 { env := [(0, .d (.int .u64 n)), (5, .own 1 (bytesD o)), (9, .d (.int .i64 s)), (10, .d (.int .i64 i))], bx := [] } = some (.norm, { env := [(0, .d (.int .u64 n)), (5, .own 1 (bytesD (o ++ [byteAt n i]))), (9, .d (.int .i64 s)), (10, .d (.int .i64 (i + 1 : Nat)))], bx := [] }) := by
  have e1 := sh_8i (i := i) (by omega)
  have e2 := fdiv_pow n (8 * i)
  have e3 := wrap_byte (n := n / 2 ^ (8 * i))
  have hb : bytesD (o ++ [byteAt n i]) = bytesD o ++ [.int .u8 ((n / 2 ^ (8 * i) % 256 : Nat) : Int)] := by
    rw [bytesD_append, bytesD_cons, bytesD_nil, byteAt, byteD_ofNat (by omega)]
  have hlen := bytesD_length (s := o)
  rw [hb]
  generalize n / 2 ^ (8 * i) = m at *
  simp -implicitDefEqProofs (maxSteps := 1000000) (disch := omega) only [↓Int.reduceLT, ↓Int.reduceLE, ↓Int.reduceEq, ↓Nat.reduceEqDiff, Nat.reduceBEq, ↓reduceIte, St.toRS, restrict, initEnv, plainArgs, reduceCtorEq, Nat.reduceEqDiff, Nat.reduceAdd, Nat.reduceMul, Int.reduceLT, Int.reduceLE, Int.reduceEq, Int.reduceNeg, Int.reduceAdd, Int.reduceToNat, Int.reduceNe, Nat.reduceSub, Int.reducePow, Int.reduceMul, vb0, vb1, vb2, vb3, vb4, vb5, vb6, vb7, l_wire_word_1, up_8i, e1, e2, e3, hlen]
theorem w_loop (n s : Nat) (hs : s ≤ 8) (hn : n < 18446744073709551616) : ∀ (f i : Nat), i ≤ s → s - i ≤ f →
    X (M q) (.loop l_wire_word_1) { env := [(0, .d (.int .u64 n)), (5, .own 1 (bytesD (wordL i n))), (9, .d (.int .i64 s)), (10, .d (.int .i64 i))], bx := [] } = some (.exit 0, { env := [(0, .d (.int .u64 n)), (5, .own 1 (bytesD (wordL s n))), (9, .d (.int .i64 s)), (10, .d (.int .i64 s)), (11, .d (.bool false))], bx := [] }) := by
  have stop : X (M q) (.loop l_wire_word_1) { env := [(0, .d (.int .u64 n)), (5, .own 1 (bytesD (wordL s n))), (9, .d (.int .i64 s)), (10, .d (.int .i64 s))], bx := [] } = some (.exit 0, { env := [(0, .d (.int .u64 n)), (5, .own 1 (bytesD (wordL s n))), (9, .d (.int .i64 s)), (10, .d (.int .i64 s)), (11, .d (.bool false))], bx := [] }) := by
    refine loop_exit ?_ (by simp)
    generalize wordL s n = o
    simp -implicitDefEqProofs (maxSteps := 1000000) (disch := omega) only [↓Int.reduceLT, ↓Int.reduceLE, ↓Int.reduceEq, ↓Nat.reduceEqDiff, Nat.reduceBEq, ↓reduceIte, St.toRS, restrict, initEnv, plainArgs, reduceCtorEq, Nat.reduceEqDiff, Nat.reduceAdd, Nat.reduceMul, Int.reduceLT, Int.reduceLE, Int.reduceEq, Int.reduceNeg, Int.reduceAdd, Int.reduceToNat, Int.reduceNe, Nat.reduceSub, Int.reducePow, Int.reduceMul, vb0, vb1, vb2, vb3, vb4, vb5, vb6, vb7, l_wire_word_1]
  intro f
  induction f with
  | zero => intro i h1 h2; obtain rfl : i = s := by omega
            exact stop
  | succ f ih =>
    intro i h1 h2
    by_cases h : i = s
    · subst h; exact stop
    · rw [X_loop, w_step n i s (by omega) hs hn _ (by rw [wordL_len]; omega)]
      simp only [andThen]
      rw [← wordL_succ, ih (i + 1) (by omega) (by omega)]
theorem word_spec (n s : Nat) (hs : s ≤ 8) (hn : n < 18446744073709551616) : C (M q) 62 [.d (.int .u64 n), .d (.int .i64 s)] = some (.own 1 (bytesD (wordL s n))) := by
  have hl := w_loop (q := q) n s hs hn 8 0 (by omega) (by omega)
  simp only [show wordL 0 n = [] from rfl, bytesD_nil, Int.cast_ofNat_Int] at hl
  rw [c_fn (sf := f_wire_word) rfl rfl ⟨rfl, rfl⟩]
  generalize bytesD (wordL s n) = xs at *
  simp -implicitDefEqProofs (maxSteps := 1000000) (disch := omega) only [↓Int.reduceLT, ↓Int.reduceLE, ↓Int.reduceEq, ↓Nat.reduceEqDiff, Nat.reduceBEq, ↓reduceIte, St.toRS, restrict, initEnv, plainArgs, reduceCtorEq, Nat.reduceEqDiff, Nat.reduceAdd, Nat.reduceMul, Int.reduceLT, Int.reduceLE, Int.reduceEq, Int.reduceNeg, Int.reduceAdd, Int.reduceToNat, Int.reduceNe, Nat.reduceSub, Int.reducePow, Int.reduceMul, vb0, vb1, vb2, vb3, vb4, vb5, vb6, vb7, f_wire_word, hl, D.cells]
theorem rw_step (n i s : Nat) (hi : i < s) (hs : s ≤ 8) (hn : n < 18446744073709551616) (o : List UInt8) (ho : o.length < 140737488355328) :
    X (M q) l_ref1_PutWord_1 { env := [(0, .d (.int .u64 n)), (1, .d (.int .i64 s)), (5, .own 1 (bytesD o)), (6, .d (.int .i64 i))], bx := [] } = some (.norm, { env := [(0, .d (.int .u64 n)), (1, .d (.int .i64 s)), (5, .own 1 (bytesD (o ++ [byteAt n i]))), (6, .d (.int .i64 (i + 1 : Nat)))], bx := [] }) := by
  have e1 := sh_8i (i := i) (by omega)
  have e2 := fdiv_pow n (8 * i)
  have e3 := wrap_byte (n := n / 2 ^ (8 * i))
  have hb : bytesD (o ++ [byteAt n i]) = bytesD o ++ [.int .u8 ((n / 2 ^ (8 * i) % 256 : Nat) : Int)] := by
    rw [bytesD_append, bytesD_cons, bytesD_nil, byteAt, byteD_ofNat (by omega)]
  have hlen := bytesD_length (s := o)
  rw [hb]
  generalize n / 2 ^ (8 * i) = m at *
  simp -implicitDefEqProofs (maxSteps := 1000000) (disch := omega) only [↓Int.reduceLT, ↓Int.reduceLE, ↓Int.reduceEq, ↓Nat.reduceEqDiff, Nat.reduceBEq, ↓reduceIte, St.toRS, restrict, initEnv, plainArgs, reduceCtorEq, Nat.reduceEqDiff, Nat.reduceAdd, Nat.reduceMul, Int.reduceLT, Int.reduceLE, Int.reduceEq, Int.reduceNeg, Int.reduceAdd, Int.reduceToNat, Int.reduceNe, Nat.reduceSub, Int.reducePow, Int.reduceMul, vb0, vb1, vb2, vb3, vb4, vb5, vb6, vb7, l_ref1_PutWord_1, up_8i, e1, e2, e3, hlen]
theorem rw_loop (n s : Nat) (hs : s ≤ 8) (hn : n < 18446744073709551616) : ∀ (f i : Nat), i ≤ s → s - i ≤ f →
    X (M q) (.loop l_ref1_PutWord_1) { env := [(0, .d (.int .u64 n)), (1, .d (.int .i64 s)), (5, .own 1 (bytesD (wordL i n))), (6, .d (.int .i64 i))], bx := [] } = some (.exit 0, { env := [(0, .d (.int .u64 n)), (1, .d (.int .i64 s)), (5, .own 1 (bytesD (wordL s n))), (6, .d (.int .i64 s)), (9, .d (.bool false))], bx := [] }) := by
  have stop : X (M q) (.loop l_ref1_PutWord_1) { env := [(0, .d (.int .u64 n)), (1, .d (.int .i64 s)), (5, .own 1 (bytesD (wordL s n))), (6, .d (.int .i64 s))], bx := [] } = some (.exit 0, { env := [(0, .d (.int .u64 n)), (1, .d (.int .i64 s)), (5, .own 1 (bytesD (wordL s n))), (6, .d (.int .i64 s)), (9, .d (.bool false))], bx := [] }) := by
    refine loop_exit ?_ (by simp)
    generalize wordL s n = o
    simp -implicitDefEqProofs (maxSteps := 1000000) (disch := omega) only [↓Int.reduceLT, ↓Int.reduceLE, ↓Int.reduceEq, ↓Nat.reduceEqDiff, Nat.reduceBEq, ↓reduceIte, St.toRS, restrict, initEnv, plainArgs, reduceCtorEq, Nat.reduceEqDiff, Nat.reduceAdd, Nat.reduceMul, Int.reduceLT, Int.reduceLE, Int.reduceEq, Int.reduceNeg, Int.reduceAdd, Int.reduceToNat, Int.reduceNe, Nat.reduceSub, Int.reducePow, Int.reduceMul, vb0, vb1, vb2, vb3, vb4, vb5, vb6, vb7, l_ref1_PutWord_1]
  intro f
  induction f with
  | zero => intro i h1 h2; obtain rfl : i = s := by omega
            exact stop
  | succ f ih =>
    intro i h1 h2
    by_cases h : i = s
    · subst h; exact stop
    · rw [X_loop, rw_step n i s (by omega) hs hn _ (by rw [wordL_len]; omega)]
      simp only [andThen]
      rw [← wordL_succ, ih (i + 1) (by omega) (by omega)]
theorem rputWord_spec (n s : Nat) (hs : s ≤ 8) (hn : n < 18446744073709551616) : C (M q) 44 [.d (.int .u64 n), .d (.int .i64 s)] = some (.own 1 (bytesD (wordL s n))) := by
  have hl := rw_loop (q := q) n s hs hn 8 0 (by omega) (by omega)
  simp only [show wordL 0 n = [] from rfl, bytesD_nil, Int.cast_ofNat_Int] at hl
  rw [c_fn (sf := f_ref1_PutWord) rfl rfl ⟨rfl, rfl⟩]
  generalize bytesD (wordL s n) = xs at *
  simp -implicitDefEqProofs (maxSteps := 1000000) (disch := omega) only [↓Int.reduceLT, ↓Int.reduceLE, ↓Int.reduceEq, ↓Nat.reduceEqDiff, Nat.reduceBEq, ↓reduceIte, St.toRS, restrict, initEnv, plainArgs, reduceCtorEq, Nat.reduceEqDiff, Nat.reduceAdd, Nat.reduceMul, Int.reduceLT, Int.reduceLE, Int.reduceEq, Int.reduceNeg, Int.reduceAdd, Int.reduceToNat, Int.reduceNe, Nat.reduceSub, Int.reducePow, Int.reduceMul, vb0, vb1, vb2, vb3, vb4, vb5, vb6, vb7, f_ref1_PutWord, hl]
theorem putFix64_spec (n : Nat) (hn : n < 18446744073709551616) : C (M q) 32 [.d (.int .u64 n)] = some (.own 1 (bytesD (wordL 8 n))) := by
  have h1 := word_spec (q := q) n 8 (by omega) hn
  simp only [Int.cast_ofNat_Int] at h1
  rw [c_fn (sf := f_wire_PutFix64) rfl rfl ⟨rfl, rfl⟩]
  generalize bytesD (wordL 8 n) = xs at *
  simp -implicitDefEqProofs (maxSteps := 1000000) (disch := omega) only [↓Int.reduceLT, ↓Int.reduceLE, ↓Int.reduceEq, ↓Nat.reduceEqDiff, Nat.reduceBEq, ↓reduceIte, St.toRS, restrict, initEnv, plainArgs, reduceCtorEq, Nat.reduceEqDiff, Nat.reduceAdd, Nat.reduceMul, Int.reduceLT, Int.reduceLE, Int.reduceEq, Int.reduceNeg, Int.reduceAdd, Int.reduceToNat, Int.reduceNe, Nat.reduceSub, Int.reducePow, Int.reduceMul, vb0, vb1, vb2, vb3, vb4, vb5, vb6, vb7, f_wire_PutFix64, h1]
theorem putFix32_spec (n : Nat) (hn : n < 4294967296) : C (M q) 31 [.d (.int .u32 n)] = some (.own 1 (bytesD (wordL 4 n))) := by
  have h1 := word_spec (q := q) n 4 (by omega) (by omega)
  simp only [Int.cast_ofNat_Int] at h1
  rw [c_fn (sf := f_wire_PutFix32) rfl rfl ⟨rfl, rfl⟩]
  generalize bytesD (wordL 4 n) = xs at *
  simp -implicitDefEqProofs (maxSteps := 1000000) (disch := omega) only [↓Int.reduceLT, ↓Int.reduceLE, ↓Int.reduceEq, ↓Nat.reduceEqDiff, Nat.reduceBEq, ↓reduceIte, St.toRS, restrict, initEnv, plainArgs, reduceCtorEq, Nat.reduceEqDiff, Nat.reduceAdd, Nat.reduceMul, Int.reduceLT, Int.reduceLE, Int.reduceEq, Int.reduceNeg, Int.reduceAdd, Int.reduceToNat, Int.reduceNe, Nat.reduceSub, Int.reducePow, Int.reduceMul, vb0, vb1, vb2, vb3, vb4, vb5, vb6, vb7, f_wire_PutFix32, h1]
theorem word4_low (n : Nat) : wordL 4 (n % 4294967296) = wordL 4 n := by
  have h : ∀ i, i < 4 → byteAt (n % 4294967296) i = byteAt n i := by
    intro i hi
    simp only [byteAt]
    congr 1
    rcases (by omega : i = 0 ∨ i = 1 ∨ i = 2 ∨ i = 3) with rfl | rfl | rfl | rfl <;> simp <;> omega
  simp only [wordL]
  refine List.map_congr_left fun i hi => h i (by simpa using hi)
end Go.Proofs.YtedncpnkbpbchaaDoor
