/-
  Values put, and which are let in: what the program and the reference answer, over data.
-/
import Derived.Test.YtedncpnkbpbchaaGreatDoorWire
import Derived.Test.YtedncpnkbpbchaaGreatDoorKind
import Derived.Test.YtedncpnkbpbchaaGreatDoorOrd
import Derived.Test.YtedncpnkbpbchaaGreatDoorUtf
set_option linter.unusedVariables false
set_option linter.unusedSimpArgs false
set_option maxRecDepth 100000
set_option maxHeartbeats 8000000
namespace Go.Proofs.YtedncpnkbpbchaaGreatDoor
open Go.Vi

/-- A value whose empty rows may be nil. -/
def valX (s1 s2 : Nat) (n : Int) (b : List UInt8) (ms : List D) : D := .agg [.int .u64 n, .slice s1 (bytesD b), .slice s2 ms]
theorem fitsX_spec (s1 s2 : Nat) (k n : Int) (b : List UInt8) (ms : List D) (h0 : 0 ≤ n) (h1 : n ≤ 18446744073709551615) : C M 44 [.d (.int .i64 k), .d (valX s1 s2 n b ms)] = some (.d (.bool (fitsB k n b ms))) := by
  rw [c_fn (sf := f_scalar_Fits) rfl rfl ⟨rfl, rfl⟩]
  have w1 := known_spec k
  have w2 := numeric_spec k
  have w3 := holds_spec k n h0 h1
  cases e1 : knownB k with
  | false => rw [e1] at w1; simp -implicitDefEqProofs (maxSteps := 1000000) (disch := omega) only [↓Int.reduceLT, ↓Int.reduceLE, ↓Int.reduceEq, ↓Nat.reduceEqDiff, Nat.reduceBEq, ↓reduceIte, St.toRS, restrict, initEnv, plainArgs, reduceCtorEq, Nat.reduceEqDiff, Nat.reduceAdd, Nat.reduceMul, Int.reduceLT, Int.reduceLE, Int.reduceEq, Int.reduceNeg, Int.reduceAdd, Int.reduceToNat, Int.reduceNe, Nat.reduceSub, Int.reducePow, Int.reduceMul, vb0, vb1, vb2, vb3, vb4, vb5, vb6, vb7, f_scalar_Fits, w1, fitsB, e1, valX]
  | true =>
    rw [e1] at w1
    by_cases hm : ms.length = 0
    · cases e2 : numericB k with
      | true =>
        rw [e2] at w2
        by_cases hb : b.length = 0
        · simp -implicitDefEqProofs (maxSteps := 1000000) (disch := omega) only [↓Int.reduceLT, ↓Int.reduceLE, ↓Int.reduceEq, ↓Nat.reduceEqDiff, Nat.reduceBEq, ↓reduceIte, St.toRS, restrict, initEnv, plainArgs, reduceCtorEq, Nat.reduceEqDiff, Nat.reduceAdd, Nat.reduceMul, Int.reduceLT, Int.reduceLE, Int.reduceEq, Int.reduceNeg, Int.reduceAdd, Int.reduceToNat, Int.reduceNe, Nat.reduceSub, Int.reducePow, Int.reduceMul, vb0, vb1, vb2, vb3, vb4, vb5, vb6, vb7, f_scalar_Fits, w1, w2, w3, fitsB, e1, e2, valX, hm, hb, sub, List.getElem?_cons_zero, List.getElem?_cons_succ, bytesD_length]
        · simp -implicitDefEqProofs (maxSteps := 1000000) (disch := omega) only [↓Int.reduceLT, ↓Int.reduceLE, ↓Int.reduceEq, ↓Nat.reduceEqDiff, Nat.reduceBEq, ↓reduceIte, St.toRS, restrict, initEnv, plainArgs, reduceCtorEq, Nat.reduceEqDiff, Nat.reduceAdd, Nat.reduceMul, Int.reduceLT, Int.reduceLE, Int.reduceEq, Int.reduceNeg, Int.reduceAdd, Int.reduceToNat, Int.reduceNe, Nat.reduceSub, Int.reducePow, Int.reduceMul, vb0, vb1, vb2, vb3, vb4, vb5, vb6, vb7, f_scalar_Fits, w1, w2, w3, fitsB, e1, e2, valX, hm, hb, sub, List.getElem?_cons_zero, List.getElem?_cons_succ, bytesD_length]
      | false =>
        rw [e2] at w2
        simp -implicitDefEqProofs (maxSteps := 1000000) (disch := omega) only [↓Int.reduceLT, ↓Int.reduceLE, ↓Int.reduceEq, ↓Nat.reduceEqDiff, Nat.reduceBEq, ↓reduceIte, St.toRS, restrict, initEnv, plainArgs, reduceCtorEq, Nat.reduceEqDiff, Nat.reduceAdd, Nat.reduceMul, Int.reduceLT, Int.reduceLE, Int.reduceEq, Int.reduceNeg, Int.reduceAdd, Int.reduceToNat, Int.reduceNe, Nat.reduceSub, Int.reducePow, Int.reduceMul, vb0, vb1, vb2, vb3, vb4, vb5, vb6, vb7, f_scalar_Fits, w1, w2, w3, fitsB, e1, e2, valX, hm, sub, List.getElem?_cons_zero, List.getElem?_cons_succ, bytesD_length]
    · simp -implicitDefEqProofs (maxSteps := 1000000) (disch := omega) only [↓Int.reduceLT, ↓Int.reduceLE, ↓Int.reduceEq, ↓Nat.reduceEqDiff, Nat.reduceBEq, ↓reduceIte, St.toRS, restrict, initEnv, plainArgs, reduceCtorEq, Nat.reduceEqDiff, Nat.reduceAdd, Nat.reduceMul, Int.reduceLT, Int.reduceLE, Int.reduceEq, Int.reduceNeg, Int.reduceAdd, Int.reduceToNat, Int.reduceNe, Nat.reduceSub, Int.reducePow, Int.reduceMul, vb0, vb1, vb2, vb3, vb4, vb5, vb6, vb7, f_scalar_Fits, w1, fitsB, e1, valX, hm, sub, List.getElem?_cons_zero, List.getElem?_cons_succ]
theorem sameX_spec (s1 s2 t1 t2 : Nat) (n n' : Int) (b b' : List UInt8) (ms ms' : List D) : C M 43 [.d (valX s1 s2 n b ms), .d (valX t1 t2 n' b' ms')] = some (.d (.bool (sameB n b ms n' b' ms'))) := by
  rw [c_fn (sf := f_ref3_Same) rfl rfl ⟨rfl, rfl⟩]
  simp only [valX, sameB]
  by_cases h1 : n = n'
  · by_cases h2 : b = b'
    · by_cases h3 : ms.length = 0
      · by_cases h4 : ms'.length = 0
        · simp -implicitDefEqProofs (maxSteps := 1000000) (disch := omega) only [↓Int.reduceLT, ↓Int.reduceLE, ↓Int.reduceEq, ↓Nat.reduceEqDiff, Nat.reduceBEq, ↓reduceIte, St.toRS, restrict, initEnv, plainArgs, reduceCtorEq, Nat.reduceEqDiff, Nat.reduceAdd, Nat.reduceMul, Int.reduceLT, Int.reduceLE, Int.reduceEq, Int.reduceNeg, Int.reduceAdd, Int.reduceToNat, Int.reduceNe, Nat.reduceSub, Int.reducePow, Int.reduceMul, vb0, vb1, vb2, vb3, vb4, vb5, vb6, vb7, f_ref3_Same, h2, h3, h4, sub, List.getElem?_cons_zero, List.getElem?_cons_succ, e_cstrB]
        · simp -implicitDefEqProofs (maxSteps := 1000000) (disch := omega) only [↓Int.reduceLT, ↓Int.reduceLE, ↓Int.reduceEq, ↓Nat.reduceEqDiff, Nat.reduceBEq, ↓reduceIte, St.toRS, restrict, initEnv, plainArgs, reduceCtorEq, Nat.reduceEqDiff, Nat.reduceAdd, Nat.reduceMul, Int.reduceLT, Int.reduceLE, Int.reduceEq, Int.reduceNeg, Int.reduceAdd, Int.reduceToNat, Int.reduceNe, Nat.reduceSub, Int.reducePow, Int.reduceMul, vb0, vb1, vb2, vb3, vb4, vb5, vb6, vb7, f_ref3_Same, h2, h3, h4, sub, List.getElem?_cons_zero, List.getElem?_cons_succ, e_cstrB]
      · simp -implicitDefEqProofs (maxSteps := 1000000) (disch := omega) only [↓Int.reduceLT, ↓Int.reduceLE, ↓Int.reduceEq, ↓Nat.reduceEqDiff, Nat.reduceBEq, ↓reduceIte, St.toRS, restrict, initEnv, plainArgs, reduceCtorEq, Nat.reduceEqDiff, Nat.reduceAdd, Nat.reduceMul, Int.reduceLT, Int.reduceLE, Int.reduceEq, Int.reduceNeg, Int.reduceAdd, Int.reduceToNat, Int.reduceNe, Nat.reduceSub, Int.reducePow, Int.reduceMul, vb0, vb1, vb2, vb3, vb4, vb5, vb6, vb7, f_ref3_Same, h2, h3, sub, List.getElem?_cons_zero, List.getElem?_cons_succ, e_cstrB]
    · simp -implicitDefEqProofs (maxSteps := 1000000) (disch := omega) only [↓Int.reduceLT, ↓Int.reduceLE, ↓Int.reduceEq, ↓Nat.reduceEqDiff, Nat.reduceBEq, ↓reduceIte, St.toRS, restrict, initEnv, plainArgs, reduceCtorEq, Nat.reduceEqDiff, Nat.reduceAdd, Nat.reduceMul, Int.reduceLT, Int.reduceLE, Int.reduceEq, Int.reduceNeg, Int.reduceAdd, Int.reduceToNat, Int.reduceNe, Nat.reduceSub, Int.reducePow, Int.reduceMul, vb0, vb1, vb2, vb3, vb4, vb5, vb6, vb7, f_ref3_Same, h2, sub, List.getElem?_cons_zero, List.getElem?_cons_succ, e_cstrB]
  · simp -implicitDefEqProofs (maxSteps := 1000000) (disch := omega) only [↓Int.reduceLT, ↓Int.reduceLE, ↓Int.reduceEq, ↓Nat.reduceEqDiff, Nat.reduceBEq, ↓reduceIte, St.toRS, restrict, initEnv, plainArgs, reduceCtorEq, Nat.reduceEqDiff, Nat.reduceAdd, Nat.reduceMul, Int.reduceLT, Int.reduceLE, Int.reduceEq, Int.reduceNeg, Int.reduceAdd, Int.reduceToNat, Int.reduceNe, Nat.reduceSub, Int.reducePow, Int.reduceMul, vb0, vb1, vb2, vb3, vb4, vb5, vb6, vb7, f_ref3_Same, h1, sub, List.getElem?_cons_zero, List.getElem?_cons_succ, e_cstrB]
theorem bsame_spec (a b : List UInt8) : C M 18 [.d (.slice 1 (bytesD a)), .d (.slice 1 (bytesD b))] = some (.d (.bool (decide (a = b)))) := by
  rw [c_fn (sf := f_law3_same) rfl rfl ⟨rfl, rfl⟩]
  by_cases h : a = b
  · simp -implicitDefEqProofs (maxSteps := 1000000) (disch := omega) only [↓Int.reduceLT, ↓Int.reduceLE, ↓Int.reduceEq, ↓Nat.reduceEqDiff, Nat.reduceBEq, ↓reduceIte, St.toRS, restrict, initEnv, plainArgs, reduceCtorEq, Nat.reduceEqDiff, Nat.reduceAdd, Nat.reduceMul, Int.reduceLT, Int.reduceLE, Int.reduceEq, Int.reduceNeg, Int.reduceAdd, Int.reduceToNat, Int.reduceNe, Nat.reduceSub, Int.reducePow, Int.reduceMul, vb0, vb1, vb2, vb3, vb4, vb5, vb6, vb7, f_law3_same, h, e_cstrB]
  · simp -implicitDefEqProofs (maxSteps := 1000000) (disch := omega) only [↓Int.reduceLT, ↓Int.reduceLE, ↓Int.reduceEq, ↓Nat.reduceEqDiff, Nat.reduceBEq, ↓reduceIte, St.toRS, restrict, initEnv, plainArgs, reduceCtorEq, Nat.reduceEqDiff, Nat.reduceAdd, Nat.reduceMul, Int.reduceLT, Int.reduceLE, Int.reduceEq, Int.reduceNeg, Int.reduceAdd, Int.reduceToNat, Int.reduceNe, Nat.reduceSub, Int.reducePow, Int.reduceMul, vb0, vb1, vb2, vb3, vb4, vb5, vb6, vb7, f_law3_same, h, e_cstrB]
def txtB (b : List UInt8) : Bool := (U.runes b).isSome
theorem valid_spec (b : List UInt8) (hb : b.length ≤ 2097152) : C M 50 [.d (.slice 1 (bytesD b))] = some (.d (.bool (txtB b))) := U.valid_spec b (by omega)
/-- Which value is let in; else the error. -/
def mayE (k n : Int) (b : List UInt8) (ms : List D) : Int := if knownB k = false then 18 else if fitsB k n b ms = false then 7 else if k = 14 ∧ txtB b = false then 8 else 0
theorem may_spec (s1 s2 : Nat) (k n : Int) (b : List UInt8) (ms : List D) (h0 : 0 ≤ n) (h1 : n ≤ 18446744073709551615) (hb : b.length ≤ 2097152) (hs : k = 14 → s1 = 1) :
    C M 22 [.d (.int .i64 k), .d (valX s1 s2 n b ms)] = some (.d (.int .i64 (mayE k n b ms))) := by
  rw [c_fn (sf := f_scalar_may) rfl rfl ⟨rfl, rfl⟩]
  have w1 := known_spec k
  have w2 := fitsX_spec s1 s2 k n b ms h0 h1
  have w3 := valid_spec b hb
  simp only [valX] at w2
  cases e1 : knownB k with
  | false => rw [e1] at w1; simp -implicitDefEqProofs (maxSteps := 1000000) (disch := omega) only [↓Int.reduceLT, ↓Int.reduceLE, ↓Int.reduceEq, ↓Nat.reduceEqDiff, Nat.reduceBEq, ↓reduceIte, St.toRS, restrict, initEnv, plainArgs, reduceCtorEq, Nat.reduceEqDiff, Nat.reduceAdd, Nat.reduceMul, Int.reduceLT, Int.reduceLE, Int.reduceEq, Int.reduceNeg, Int.reduceAdd, Int.reduceToNat, Int.reduceNe, Nat.reduceSub, Int.reducePow, Int.reduceMul, vb0, vb1, vb2, vb3, vb4, vb5, vb6, vb7, f_scalar_may, w1, mayE, e1, valX]
  | true =>
    rw [e1] at w1
    cases e2 : fitsB k n b ms with
    | false => rw [e2] at w2; simp -implicitDefEqProofs (maxSteps := 1000000) (disch := omega) only [↓Int.reduceLT, ↓Int.reduceLE, ↓Int.reduceEq, ↓Nat.reduceEqDiff, Nat.reduceBEq, ↓reduceIte, St.toRS, restrict, initEnv, plainArgs, reduceCtorEq, Nat.reduceEqDiff, Nat.reduceAdd, Nat.reduceMul, Int.reduceLT, Int.reduceLE, Int.reduceEq, Int.reduceNeg, Int.reduceAdd, Int.reduceToNat, Int.reduceNe, Nat.reduceSub, Int.reducePow, Int.reduceMul, vb0, vb1, vb2, vb3, vb4, vb5, vb6, vb7, f_scalar_may, w1, w2, mayE, e1, e2, valX, sub, List.getElem?_cons_zero, List.getElem?_cons_succ, List.drop_zero, List.take_succ_cons, List.take_zero]
    | true =>
      rw [e2] at w2
      by_cases hk : k = 14
      · have hs := hs hk
        subst hs
        subst hk
        cases e3 : txtB b with
        | false => rw [e3] at w3; simp -implicitDefEqProofs (maxSteps := 1000000) (disch := omega) only [↓Int.reduceLT, ↓Int.reduceLE, ↓Int.reduceEq, ↓Nat.reduceEqDiff, Nat.reduceBEq, ↓reduceIte, St.toRS, restrict, initEnv, plainArgs, reduceCtorEq, Nat.reduceEqDiff, Nat.reduceAdd, Nat.reduceMul, Int.reduceLT, Int.reduceLE, Int.reduceEq, Int.reduceNeg, Int.reduceAdd, Int.reduceToNat, Int.reduceNe, Nat.reduceSub, Int.reducePow, Int.reduceMul, vb0, vb1, vb2, vb3, vb4, vb5, vb6, vb7, f_scalar_may, w1, w2, w3, mayE, e1, e2, e3, valX, sub, List.getElem?_cons_zero, List.getElem?_cons_succ, List.drop_zero, List.take_succ_cons, List.take_zero]
        | true => rw [e3] at w3; simp -implicitDefEqProofs (maxSteps := 1000000) (disch := omega) only [↓Int.reduceLT, ↓Int.reduceLE, ↓Int.reduceEq, ↓Nat.reduceEqDiff, Nat.reduceBEq, ↓reduceIte, St.toRS, restrict, initEnv, plainArgs, reduceCtorEq, Nat.reduceEqDiff, Nat.reduceAdd, Nat.reduceMul, Int.reduceLT, Int.reduceLE, Int.reduceEq, Int.reduceNeg, Int.reduceAdd, Int.reduceToNat, Int.reduceNe, Nat.reduceSub, Int.reducePow, Int.reduceMul, vb0, vb1, vb2, vb3, vb4, vb5, vb6, vb7, f_scalar_may, w1, w2, w3, mayE, e1, e2, e3, valX, sub, List.getElem?_cons_zero, List.getElem?_cons_succ, List.drop_zero, List.take_succ_cons, List.take_zero]
      · have e : mayE k n b ms = 0 := by simp [mayE, e1, e2, hk]
        rw [e]
        simp -implicitDefEqProofs (maxSteps := 1000000) (disch := omega) only [↓Int.reduceLT, ↓Int.reduceLE, ↓Int.reduceEq, ↓Nat.reduceEqDiff, Nat.reduceBEq, ↓reduceIte, St.toRS, restrict, initEnv, plainArgs, reduceCtorEq, Nat.reduceEqDiff, Nat.reduceAdd, Nat.reduceMul, Int.reduceLT, Int.reduceLE, Int.reduceEq, Int.reduceNeg, Int.reduceAdd, Int.reduceToNat, Int.reduceNe, Nat.reduceSub, Int.reducePow, Int.reduceMul, vb0, vb1, vb2, vb3, vb4, vb5, vb6, vb7, f_scalar_may, w1, w2, hk, valX, sub, List.getElem?_cons_zero, List.getElem?_cons_succ, List.drop_zero, List.take_succ_cons, List.take_zero]

/-! ### Put -/
def putL (k : Int) (n : Nat) (b : List UInt8) : List UInt8 :=
  if wireI k = 2 then vb b.length ++ b else if wireI k = 5 then wordL 4 n else if wireI k = 1 then wordL 8 n else if k = 6 ∨ k = 7 then vb (zz (sgn n)) else vb n
def putD (k : Int) (n : Nat) (b : List UInt8) (ms : List D) : V := .tup [.slice 1 (bytesD (if mayE k n b ms = 0 then putL k n b else [])), .int .i64 (mayE k n b ms)]
theorem sgn_lo {n : Nat} (h : n < 18446744073709551616) : -9223372036854775808 ≤ sgn n ∧ sgn n ≤ 9223372036854775807 := by
  rcases sgn_or (n := (n : Int)) with ⟨h1, h2⟩ | ⟨h1, h2⟩ <;> omega
theorem wrap_u32_nat' (n : Nat) : IntKind.u32.wrap (n : Int) = ((n % 4294967296 : Nat) : Int) := by
  simp [IntKind.wrap, IntKind.min, IntKind.max, IntKind.signed, IntKind.bits]
theorem put_spec (k : Int) (n : Nat) (b : List UInt8) (ms : List D) (h1 : n < 18446744073709551616) (hb : b.length ≤ 2097152) :
    C M 8 [.d (.int .i64 k), .d (valX 1 2 n b ms)] = some (putD k n b ms) := by
  rw [c_fn (sf := f_scalar_Put) rfl rfl ⟨rfl, rfl⟩]
  have w1 := may_spec 1 2 k n b ms (by omega) (by omega) hb (fun _ => rfl)
  have w2 := wire_spec k
  have hm : mayE k n b ms = 18 ∨ mayE k n b ms = 7 ∨ mayE k n b ms = 8 ∨ (mayE k n b ms = 0 ∧ knownB k = true) := by
    simp only [mayE]
    cases knownB k
    · simp
    · cases fitsB k n b ms
      · simp
      · by_cases h : k = 14 ∧ txtB b = false
        · simp [h]
        · simp [h]
  have s1 := putChunk_spec b hb
  have s2 := putFix32_spec (n % 4294967296) (by omega)
  have s3 := putFix64_spec n h1
  have s4 := putVarint_spec n h1
  have z := sgn_lo h1
  have s5 := zigZag_spec (sgn n) z.1 z.2
  have s6 := putVarint_spec (zz (sgn n)) (zz_lt z.1 z.2)
  have u32 := wrap_u32_nat' n
  have i64 := wrap_sgn (n := (n : Int)) (by omega) (by omega)
  rw [word4_low] at s2
  simp only [putD]
  simp only [valX] at w1 ⊢
  rcases hm with hm | hm | hm | ⟨hm, hk⟩
  · rw [hm] at w1 ⊢
    simp -implicitDefEqProofs (maxSteps := 1000000) (disch := omega) only [↓Int.reduceLT, ↓Int.reduceLE, ↓Int.reduceEq, ↓Nat.reduceEqDiff, Nat.reduceBEq, ↓reduceIte, St.toRS, restrict, initEnv, plainArgs, reduceCtorEq, Nat.reduceEqDiff, Nat.reduceAdd, Nat.reduceMul, Int.reduceLT, Int.reduceLE, Int.reduceEq, Int.reduceNeg, Int.reduceAdd, Int.reduceToNat, Int.reduceNe, Nat.reduceSub, Int.reducePow, Int.reduceMul, vb0, vb1, vb2, vb3, vb4, vb5, vb6, vb7, f_scalar_Put, w1, sub, List.getElem?_cons_zero, List.getElem?_cons_succ, List.drop_zero, List.take_succ_cons, List.take_zero, bytesD_nil]
  · rw [hm] at w1 ⊢
    simp -implicitDefEqProofs (maxSteps := 1000000) (disch := omega) only [↓Int.reduceLT, ↓Int.reduceLE, ↓Int.reduceEq, ↓Nat.reduceEqDiff, Nat.reduceBEq, ↓reduceIte, St.toRS, restrict, initEnv, plainArgs, reduceCtorEq, Nat.reduceEqDiff, Nat.reduceAdd, Nat.reduceMul, Int.reduceLT, Int.reduceLE, Int.reduceEq, Int.reduceNeg, Int.reduceAdd, Int.reduceToNat, Int.reduceNe, Nat.reduceSub, Int.reducePow, Int.reduceMul, vb0, vb1, vb2, vb3, vb4, vb5, vb6, vb7, f_scalar_Put, w1, sub, List.getElem?_cons_zero, List.getElem?_cons_succ, List.drop_zero, List.take_succ_cons, List.take_zero, bytesD_nil]
  · rw [hm] at w1 ⊢
    simp -implicitDefEqProofs (maxSteps := 1000000) (disch := omega) only [↓Int.reduceLT, ↓Int.reduceLE, ↓Int.reduceEq, ↓Nat.reduceEqDiff, Nat.reduceBEq, ↓reduceIte, St.toRS, restrict, initEnv, plainArgs, reduceCtorEq, Nat.reduceEqDiff, Nat.reduceAdd, Nat.reduceMul, Int.reduceLT, Int.reduceLE, Int.reduceEq, Int.reduceNeg, Int.reduceAdd, Int.reduceToNat, Int.reduceNe, Nat.reduceSub, Int.reducePow, Int.reduceMul, vb0, vb1, vb2, vb3, vb4, vb5, vb6, vb7, f_scalar_Put, w1, sub, List.getElem?_cons_zero, List.getElem?_cons_succ, List.drop_zero, List.take_succ_cons, List.take_zero, bytesD_nil]
  · rw [hm] at w1 ⊢
    rw [if_pos rfl]
    simp only [knownB, decide_eq_true_eq] at hk
    rcases (by omega : k = 1 ∨ k = 2 ∨ k = 3 ∨ k = 4 ∨ k = 5 ∨ k = 6 ∨ k = 7 ∨ k = 8 ∨ k = 9 ∨ k = 10 ∨ k = 11 ∨ k = 12 ∨ k = 13 ∨ k = 14 ∨ k = 15 ∨ k = 16) with rfl | rfl | rfl | rfl | rfl | rfl | rfl | rfl | rfl | rfl | rfl | rfl | rfl | rfl | rfl | rfl
    · have e : putL 1 n b = vb n := by simp [putL, wireI]
      rw [e]
      simp -implicitDefEqProofs (maxSteps := 1000000) (disch := omega) only [↓Int.reduceLT, ↓Int.reduceLE, ↓Int.reduceEq, ↓Nat.reduceEqDiff, Nat.reduceBEq, ↓reduceIte, St.toRS, restrict, initEnv, plainArgs, reduceCtorEq, Nat.reduceEqDiff, Nat.reduceAdd, Nat.reduceMul, Int.reduceLT, Int.reduceLE, Int.reduceEq, Int.reduceNeg, Int.reduceAdd, Int.reduceToNat, Int.reduceNe, Nat.reduceSub, Int.reducePow, Int.reduceMul, vb0, vb1, vb2, vb3, vb4, vb5, vb6, vb7, f_scalar_Put, w1, w2, wireI, s1, s2, s3, s4, s5, s6, u32, i64, sub, List.getElem?_cons_zero, List.getElem?_cons_succ, List.drop_zero, List.take_succ_cons, List.take_zero]
    · have e : putL 2 n b = vb n := by simp [putL, wireI]
      rw [e]
      simp -implicitDefEqProofs (maxSteps := 1000000) (disch := omega) only [↓Int.reduceLT, ↓Int.reduceLE, ↓Int.reduceEq, ↓Nat.reduceEqDiff, Nat.reduceBEq, ↓reduceIte, St.toRS, restrict, initEnv, plainArgs, reduceCtorEq, Nat.reduceEqDiff, Nat.reduceAdd, Nat.reduceMul, Int.reduceLT, Int.reduceLE, Int.reduceEq, Int.reduceNeg, Int.reduceAdd, Int.reduceToNat, Int.reduceNe, Nat.reduceSub, Int.reducePow, Int.reduceMul, vb0, vb1, vb2, vb3, vb4, vb5, vb6, vb7, f_scalar_Put, w1, w2, wireI, s1, s2, s3, s4, s5, s6, u32, i64, sub, List.getElem?_cons_zero, List.getElem?_cons_succ, List.drop_zero, List.take_succ_cons, List.take_zero]
    · have e : putL 3 n b = vb n := by simp [putL, wireI]
      rw [e]
      simp -implicitDefEqProofs (maxSteps := 1000000) (disch := omega) only [↓Int.reduceLT, ↓Int.reduceLE, ↓Int.reduceEq, ↓Nat.reduceEqDiff, Nat.reduceBEq, ↓reduceIte, St.toRS, restrict, initEnv, plainArgs, reduceCtorEq, Nat.reduceEqDiff, Nat.reduceAdd, Nat.reduceMul, Int.reduceLT, Int.reduceLE, Int.reduceEq, Int.reduceNeg, Int.reduceAdd, Int.reduceToNat, Int.reduceNe, Nat.reduceSub, Int.reducePow, Int.reduceMul, vb0, vb1, vb2, vb3, vb4, vb5, vb6, vb7, f_scalar_Put, w1, w2, wireI, s1, s2, s3, s4, s5, s6, u32, i64, sub, List.getElem?_cons_zero, List.getElem?_cons_succ, List.drop_zero, List.take_succ_cons, List.take_zero]
    · have e : putL 4 n b = vb n := by simp [putL, wireI]
      rw [e]
      simp -implicitDefEqProofs (maxSteps := 1000000) (disch := omega) only [↓Int.reduceLT, ↓Int.reduceLE, ↓Int.reduceEq, ↓Nat.reduceEqDiff, Nat.reduceBEq, ↓reduceIte, St.toRS, restrict, initEnv, plainArgs, reduceCtorEq, Nat.reduceEqDiff, Nat.reduceAdd, Nat.reduceMul, Int.reduceLT, Int.reduceLE, Int.reduceEq, Int.reduceNeg, Int.reduceAdd, Int.reduceToNat, Int.reduceNe, Nat.reduceSub, Int.reducePow, Int.reduceMul, vb0, vb1, vb2, vb3, vb4, vb5, vb6, vb7, f_scalar_Put, w1, w2, wireI, s1, s2, s3, s4, s5, s6, u32, i64, sub, List.getElem?_cons_zero, List.getElem?_cons_succ, List.drop_zero, List.take_succ_cons, List.take_zero]
    · have e : putL 5 n b = vb n := by simp [putL, wireI]
      rw [e]
      simp -implicitDefEqProofs (maxSteps := 1000000) (disch := omega) only [↓Int.reduceLT, ↓Int.reduceLE, ↓Int.reduceEq, ↓Nat.reduceEqDiff, Nat.reduceBEq, ↓reduceIte, St.toRS, restrict, initEnv, plainArgs, reduceCtorEq, Nat.reduceEqDiff, Nat.reduceAdd, Nat.reduceMul, Int.reduceLT, Int.reduceLE, Int.reduceEq, Int.reduceNeg, Int.reduceAdd, Int.reduceToNat, Int.reduceNe, Nat.reduceSub, Int.reducePow, Int.reduceMul, vb0, vb1, vb2, vb3, vb4, vb5, vb6, vb7, f_scalar_Put, w1, w2, wireI, s1, s2, s3, s4, s5, s6, u32, i64, sub, List.getElem?_cons_zero, List.getElem?_cons_succ, List.drop_zero, List.take_succ_cons, List.take_zero]
    · have e : putL 6 n b = vb (zz (sgn n)) := by simp [putL, wireI]
      rw [e]
      simp -implicitDefEqProofs (maxSteps := 1000000) (disch := omega) only [↓Int.reduceLT, ↓Int.reduceLE, ↓Int.reduceEq, ↓Nat.reduceEqDiff, Nat.reduceBEq, ↓reduceIte, St.toRS, restrict, initEnv, plainArgs, reduceCtorEq, Nat.reduceEqDiff, Nat.reduceAdd, Nat.reduceMul, Int.reduceLT, Int.reduceLE, Int.reduceEq, Int.reduceNeg, Int.reduceAdd, Int.reduceToNat, Int.reduceNe, Nat.reduceSub, Int.reducePow, Int.reduceMul, vb0, vb1, vb2, vb3, vb4, vb5, vb6, vb7, f_scalar_Put, w1, w2, wireI, s1, s2, s3, s4, s5, s6, u32, i64, sub, List.getElem?_cons_zero, List.getElem?_cons_succ, List.drop_zero, List.take_succ_cons, List.take_zero]
    · have e : putL 7 n b = vb (zz (sgn n)) := by simp [putL, wireI]
      rw [e]
      simp -implicitDefEqProofs (maxSteps := 1000000) (disch := omega) only [↓Int.reduceLT, ↓Int.reduceLE, ↓Int.reduceEq, ↓Nat.reduceEqDiff, Nat.reduceBEq, ↓reduceIte, St.toRS, restrict, initEnv, plainArgs, reduceCtorEq, Nat.reduceEqDiff, Nat.reduceAdd, Nat.reduceMul, Int.reduceLT, Int.reduceLE, Int.reduceEq, Int.reduceNeg, Int.reduceAdd, Int.reduceToNat, Int.reduceNe, Nat.reduceSub, Int.reducePow, Int.reduceMul, vb0, vb1, vb2, vb3, vb4, vb5, vb6, vb7, f_scalar_Put, w1, w2, wireI, s1, s2, s3, s4, s5, s6, u32, i64, sub, List.getElem?_cons_zero, List.getElem?_cons_succ, List.drop_zero, List.take_succ_cons, List.take_zero]
    · have e : putL 8 n b = wordL 4 n := by simp [putL, wireI]
      rw [e]
      simp -implicitDefEqProofs (maxSteps := 1000000) (disch := omega) only [↓Int.reduceLT, ↓Int.reduceLE, ↓Int.reduceEq, ↓Nat.reduceEqDiff, Nat.reduceBEq, ↓reduceIte, St.toRS, restrict, initEnv, plainArgs, reduceCtorEq, Nat.reduceEqDiff, Nat.reduceAdd, Nat.reduceMul, Int.reduceLT, Int.reduceLE, Int.reduceEq, Int.reduceNeg, Int.reduceAdd, Int.reduceToNat, Int.reduceNe, Nat.reduceSub, Int.reducePow, Int.reduceMul, vb0, vb1, vb2, vb3, vb4, vb5, vb6, vb7, f_scalar_Put, w1, w2, wireI, s1, s2, s3, s4, s5, s6, u32, i64, sub, List.getElem?_cons_zero, List.getElem?_cons_succ, List.drop_zero, List.take_succ_cons, List.take_zero]
    · have e : putL 9 n b = wordL 8 n := by simp [putL, wireI]
      rw [e]
      simp -implicitDefEqProofs (maxSteps := 1000000) (disch := omega) only [↓Int.reduceLT, ↓Int.reduceLE, ↓Int.reduceEq, ↓Nat.reduceEqDiff, Nat.reduceBEq, ↓reduceIte, St.toRS, restrict, initEnv, plainArgs, reduceCtorEq, Nat.reduceEqDiff, Nat.reduceAdd, Nat.reduceMul, Int.reduceLT, Int.reduceLE, Int.reduceEq, Int.reduceNeg, Int.reduceAdd, Int.reduceToNat, Int.reduceNe, Nat.reduceSub, Int.reducePow, Int.reduceMul, vb0, vb1, vb2, vb3, vb4, vb5, vb6, vb7, f_scalar_Put, w1, w2, wireI, s1, s2, s3, s4, s5, s6, u32, i64, sub, List.getElem?_cons_zero, List.getElem?_cons_succ, List.drop_zero, List.take_succ_cons, List.take_zero]
    · have e : putL 10 n b = wordL 4 n := by simp [putL, wireI]
      rw [e]
      simp -implicitDefEqProofs (maxSteps := 1000000) (disch := omega) only [↓Int.reduceLT, ↓Int.reduceLE, ↓Int.reduceEq, ↓Nat.reduceEqDiff, Nat.reduceBEq, ↓reduceIte, St.toRS, restrict, initEnv, plainArgs, reduceCtorEq, Nat.reduceEqDiff, Nat.reduceAdd, Nat.reduceMul, Int.reduceLT, Int.reduceLE, Int.reduceEq, Int.reduceNeg, Int.reduceAdd, Int.reduceToNat, Int.reduceNe, Nat.reduceSub, Int.reducePow, Int.reduceMul, vb0, vb1, vb2, vb3, vb4, vb5, vb6, vb7, f_scalar_Put, w1, w2, wireI, s1, s2, s3, s4, s5, s6, u32, i64, sub, List.getElem?_cons_zero, List.getElem?_cons_succ, List.drop_zero, List.take_succ_cons, List.take_zero]
    · have e : putL 11 n b = wordL 8 n := by simp [putL, wireI]
      rw [e]
      simp -implicitDefEqProofs (maxSteps := 1000000) (disch := omega) only [↓Int.reduceLT, ↓Int.reduceLE, ↓Int.reduceEq, ↓Nat.reduceEqDiff, Nat.reduceBEq, ↓reduceIte, St.toRS, restrict, initEnv, plainArgs, reduceCtorEq, Nat.reduceEqDiff, Nat.reduceAdd, Nat.reduceMul, Int.reduceLT, Int.reduceLE, Int.reduceEq, Int.reduceNeg, Int.reduceAdd, Int.reduceToNat, Int.reduceNe, Nat.reduceSub, Int.reducePow, Int.reduceMul, vb0, vb1, vb2, vb3, vb4, vb5, vb6, vb7, f_scalar_Put, w1, w2, wireI, s1, s2, s3, s4, s5, s6, u32, i64, sub, List.getElem?_cons_zero, List.getElem?_cons_succ, List.drop_zero, List.take_succ_cons, List.take_zero]
    · have e : putL 12 n b = wordL 4 n := by simp [putL, wireI]
      rw [e]
      simp -implicitDefEqProofs (maxSteps := 1000000) (disch := omega) only [↓Int.reduceLT, ↓Int.reduceLE, ↓Int.reduceEq, ↓Nat.reduceEqDiff, Nat.reduceBEq, ↓reduceIte, St.toRS, restrict, initEnv, plainArgs, reduceCtorEq, Nat.reduceEqDiff, Nat.reduceAdd, Nat.reduceMul, Int.reduceLT, Int.reduceLE, Int.reduceEq, Int.reduceNeg, Int.reduceAdd, Int.reduceToNat, Int.reduceNe, Nat.reduceSub, Int.reducePow, Int.reduceMul, vb0, vb1, vb2, vb3, vb4, vb5, vb6, vb7, f_scalar_Put, w1, w2, wireI, s1, s2, s3, s4, s5, s6, u32, i64, sub, List.getElem?_cons_zero, List.getElem?_cons_succ, List.drop_zero, List.take_succ_cons, List.take_zero]
    · have e : putL 13 n b = wordL 8 n := by simp [putL, wireI]
      rw [e]
      simp -implicitDefEqProofs (maxSteps := 1000000) (disch := omega) only [↓Int.reduceLT, ↓Int.reduceLE, ↓Int.reduceEq, ↓Nat.reduceEqDiff, Nat.reduceBEq, ↓reduceIte, St.toRS, restrict, initEnv, plainArgs, reduceCtorEq, Nat.reduceEqDiff, Nat.reduceAdd, Nat.reduceMul, Int.reduceLT, Int.reduceLE, Int.reduceEq, Int.reduceNeg, Int.reduceAdd, Int.reduceToNat, Int.reduceNe, Nat.reduceSub, Int.reducePow, Int.reduceMul, vb0, vb1, vb2, vb3, vb4, vb5, vb6, vb7, f_scalar_Put, w1, w2, wireI, s1, s2, s3, s4, s5, s6, u32, i64, sub, List.getElem?_cons_zero, List.getElem?_cons_succ, List.drop_zero, List.take_succ_cons, List.take_zero]
    · have e : putL 14 n b = vb b.length ++ b := by simp [putL, wireI]
      rw [e]
      simp -implicitDefEqProofs (maxSteps := 1000000) (disch := omega) only [↓Int.reduceLT, ↓Int.reduceLE, ↓Int.reduceEq, ↓Nat.reduceEqDiff, Nat.reduceBEq, ↓reduceIte, St.toRS, restrict, initEnv, plainArgs, reduceCtorEq, Nat.reduceEqDiff, Nat.reduceAdd, Nat.reduceMul, Int.reduceLT, Int.reduceLE, Int.reduceEq, Int.reduceNeg, Int.reduceAdd, Int.reduceToNat, Int.reduceNe, Nat.reduceSub, Int.reducePow, Int.reduceMul, vb0, vb1, vb2, vb3, vb4, vb5, vb6, vb7, f_scalar_Put, w1, w2, wireI, s1, s2, s3, s4, s5, s6, u32, i64, sub, List.getElem?_cons_zero, List.getElem?_cons_succ, List.drop_zero, List.take_succ_cons, List.take_zero]
    · have e : putL 15 n b = vb b.length ++ b := by simp [putL, wireI]
      rw [e]
      simp -implicitDefEqProofs (maxSteps := 1000000) (disch := omega) only [↓Int.reduceLT, ↓Int.reduceLE, ↓Int.reduceEq, ↓Nat.reduceEqDiff, Nat.reduceBEq, ↓reduceIte, St.toRS, restrict, initEnv, plainArgs, reduceCtorEq, Nat.reduceEqDiff, Nat.reduceAdd, Nat.reduceMul, Int.reduceLT, Int.reduceLE, Int.reduceEq, Int.reduceNeg, Int.reduceAdd, Int.reduceToNat, Int.reduceNe, Nat.reduceSub, Int.reducePow, Int.reduceMul, vb0, vb1, vb2, vb3, vb4, vb5, vb6, vb7, f_scalar_Put, w1, w2, wireI, s1, s2, s3, s4, s5, s6, u32, i64, sub, List.getElem?_cons_zero, List.getElem?_cons_succ, List.drop_zero, List.take_succ_cons, List.take_zero]
    · have e : putL 16 n b = vb n := by simp [putL, wireI]
      rw [e]
      simp -implicitDefEqProofs (maxSteps := 1000000) (disch := omega) only [↓Int.reduceLT, ↓Int.reduceLE, ↓Int.reduceEq, ↓Nat.reduceEqDiff, Nat.reduceBEq, ↓reduceIte, St.toRS, restrict, initEnv, plainArgs, reduceCtorEq, Nat.reduceEqDiff, Nat.reduceAdd, Nat.reduceMul, Int.reduceLT, Int.reduceLE, Int.reduceEq, Int.reduceNeg, Int.reduceAdd, Int.reduceToNat, Int.reduceNe, Nat.reduceSub, Int.reducePow, Int.reduceMul, vb0, vb1, vb2, vb3, vb4, vb5, vb6, vb7, f_scalar_Put, w1, w2, wireI, s1, s2, s3, s4, s5, s6, u32, i64, sub, List.getElem?_cons_zero, List.getElem?_cons_succ, List.drop_zero, List.take_succ_cons, List.take_zero]
end Go.Proofs.YtedncpnkbpbchaaGreatDoor
