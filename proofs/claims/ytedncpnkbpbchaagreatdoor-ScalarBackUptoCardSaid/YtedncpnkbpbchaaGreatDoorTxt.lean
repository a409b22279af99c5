/-
  What Text answers of a value that is let in: over data.
-/
import Derived.Test.YtedncpnkbpbchaaGreatDoorPlain
set_option linter.unusedVariables false
set_option linter.unusedSimpArgs false
set_option maxRecDepth 100000
set_option maxHeartbeats 16000000
namespace Go.Proofs.YtedncpnkbpbchaaGreatDoor
open Go.Vi

theorem fuint16_spec (n : Nat) (hn : n < 18446744073709551616) : C M 39 [.d (.int .u64 n), .d (.int .i64 16)] = some (.d (.str (hexL n))) := by
  rw [C_prim (p := fuintPrim) rfl]
  show fuintPrim [.int .u64 n, .int .i64 16] = _
  simp only [fuintPrim]
  rw [if_pos ⟨by omega, by omega⟩, if_neg (by omega), if_pos trivial, Int.toNat_natCast]
theorem fuint10_spec (n : Nat) (hn : n < 18446744073709551616) : C M 39 [.d (.int .u64 n), .d (.int .i64 10)] = some (.d (.str (Lib.decDigits n))) := by
  rw [C_prim (p := fuintPrim) rfl]
  show fuintPrim [.int .u64 n, .int .i64 10] = _
  simp only [fuintPrim]
  rw [if_pos ⟨by omega, by omega⟩, if_pos trivial, Int.toNat_natCast]
theorem fint_spec (n : Int) (h0 : -9223372036854775808 ≤ n) (h1 : n ≤ 9223372036854775807) : C M 38 [.d (.int .i64 n), .d (.int .i64 10)] = some (.d (.str (Lib.itoa n))) := by
  rw [C_prim (p := fintPrim) rfl]
  show fintPrim [.int .i64 n, .int .i64 10] = _
  simp only [fintPrim]
  rw [if_pos ⟨h0, h1, trivial⟩]
theorem repeat_spec (c : Nat) (h : c ≤ 64) : C M 58 [.d (.str [48]), .d (.int .i64 c)] = some (.d (.str (Lib.repeatL [48] c))) := by
  rw [C_prim (p := repeatPrim) rfl]
  show repeatPrim [.str [48], .int .i64 c] = _
  simp only [repeatPrim]
  rw [if_pos ⟨by omega, by omega, by simp, by simp⟩, Int.toNat_natCast]
theorem digits_spec (n many : Nat) (hn : n < 18446744073709551616) (hl : n < 16 ^ many) (h1 : 1 ≤ many) (hm : many ≤ 16) : C M 35 [.d (.int .u64 n), .d (.int .i64 many)] = some (.d (.str (padL many n))) := by
  rw [c_fn (sf := f_scalar_digits) rfl rfl ⟨rfl, rfl⟩]
  have w1 := fuint16_spec n hn
  have hlen : (hexL n).length ≤ many := hexF_len 16 n many hl h1
  have w2 := repeat_spec (many - (hexL n).length) (by omega)
  have hr := rep_len (many - (hexL n).length)
  simp only [padL]
  generalize Lib.repeatL [48] (many - (hexL n).length) = R at *
  generalize hexL n = H at *
  simp -implicitDefEqProofs (maxSteps := 1000000) (disch := omega) only [↓Int.reduceLT, ↓Int.reduceLE, ↓Int.reduceEq, ↓Nat.reduceEqDiff, Nat.reduceBEq, ↓reduceIte, St.toRS, restrict, initEnv, plainArgs, reduceCtorEq, Nat.reduceEqDiff, Nat.reduceAdd, Nat.reduceMul, Int.reduceLT, Int.reduceLE, Int.reduceEq, Int.reduceNeg, Int.reduceAdd, Int.reduceToNat, Int.reduceNe, Nat.reduceSub, Int.reducePow, Int.reduceMul, vb0, vb1, vb2, vb3, vb4, vb5, vb6, vb7, f_scalar_digits, w1, w2]
theorem fbool_spec (b : Bool) : C M 34 [.d (.bool b)] = some (.d (.str (if b = true then [116, 114, 117, 101] else [102, 97, 108, 115, 101]))) := by
  have h : C M 57 [.d (.bool b)] = some (.d (.str (if b = true then [116, 114, 117, 101] else [102, 97, 108, 115, 101]))) := by
    rw [c_fn (sf := f_internal_strconv_FormatBool) rfl rfl ⟨rfl, rfl⟩]
    cases b with
    | true => simp -implicitDefEqProofs (maxSteps := 1000000) (disch := omega) only [↓Int.reduceLT, ↓Int.reduceLE, ↓Int.reduceEq, ↓Nat.reduceEqDiff, Nat.reduceBEq, ↓reduceIte, St.toRS, restrict, initEnv, plainArgs, reduceCtorEq, Nat.reduceEqDiff, Nat.reduceAdd, Nat.reduceMul, Int.reduceLT, Int.reduceLE, Int.reduceEq, Int.reduceNeg, Int.reduceAdd, Int.reduceToNat, Int.reduceNe, Nat.reduceSub, Int.reducePow, Int.reduceMul, vb0, vb1, vb2, vb3, vb4, vb5, vb6, vb7, f_internal_strconv_FormatBool]
    | false => simp -implicitDefEqProofs (maxSteps := 1000000) (disch := omega) only [↓Int.reduceLT, ↓Int.reduceLE, ↓Int.reduceEq, ↓Nat.reduceEqDiff, Nat.reduceBEq, ↓reduceIte, St.toRS, restrict, initEnv, plainArgs, reduceCtorEq, Nat.reduceEqDiff, Nat.reduceAdd, Nat.reduceMul, Int.reduceLT, Int.reduceLE, Int.reduceEq, Int.reduceNeg, Int.reduceAdd, Int.reduceToNat, Int.reduceNe, Nat.reduceSub, Int.reducePow, Int.reduceMul, vb0, vb1, vb2, vb3, vb4, vb5, vb6, vb7, f_internal_strconv_FormatBool, Bool.false_eq_true]
  rw [c_fn (sf := f_strconv_FormatBool) rfl rfl ⟨rfl, rfl⟩]
  simp -implicitDefEqProofs (maxSteps := 1000000) (disch := omega) only [↓Int.reduceLT, ↓Int.reduceLE, ↓Int.reduceEq, ↓Nat.reduceEqDiff, Nat.reduceBEq, ↓reduceIte, St.toRS, restrict, initEnv, plainArgs, reduceCtorEq, Nat.reduceEqDiff, Nat.reduceAdd, Nat.reduceMul, Int.reduceLT, Int.reduceLE, Int.reduceEq, Int.reduceNeg, Int.reduceAdd, Int.reduceToNat, Int.reduceNe, Nat.reduceSub, Int.reducePow, Int.reduceMul, vb0, vb1, vb2, vb3, vb4, vb5, vb6, vb7, f_strconv_FormatBool, h]

theorem may_num {k n : Int} {b : List UInt8} {ms : List D} (h : mayE k n b ms = 0) (hk : numericB k = true) : b = [] ∧ ms = [] ∧ holdsB k n = true := by
  have h1 : knownB k = true := by simp only [numericB, decide_eq_true_eq] at hk; simp only [knownB, decide_eq_true_eq]; omega
  simp only [mayE, h1, Bool.true_eq_false, if_false] at h
  cases hf : fitsB k n b ms with
  | false => rw [if_pos hf] at h; cases h
  | true =>
    simp only [fitsB, h1, hk, if_true, Bool.true_and, Bool.and_eq_true, decide_eq_true_eq] at hf
    exact ⟨List.eq_nil_of_length_eq_zero hf.2.1, List.eq_nil_of_length_eq_zero hf.1, hf.2.2⟩
theorem may_bytes {k n : Int} {b : List UInt8} {ms : List D} (h : mayE k n b ms = 0) (h1 : knownB k = true) (hk : numericB k = false) : n = 0 ∧ ms = [] := by
  simp only [mayE, h1, Bool.true_eq_false, if_false] at h
  cases hf : fitsB k n b ms with
  | false => rw [if_pos hf] at h; cases h
  | true =>
    simp only [fitsB, h1, hk, Bool.false_eq_true, if_false, Bool.true_and, Bool.and_eq_true, decide_eq_true_eq] at hf
    exact ⟨hf.2, List.eq_nil_of_length_eq_zero hf.1⟩

/-- A value's text. -/
def textL (k : Int) (n : Nat) (b : List UInt8) : List UInt8 :=
  if k = 1 then (if n = 1 then [116, 114, 117, 101] else [102, 97, 108, 115, 101]) else if k = 12 then 102 :: padL 8 n else if k = 13 then 100 :: padL 16 n
  else if k = 14 ∨ k = 15 then quoteL b else if signedB k = true then Lib.itoa (sgn n) else Lib.decDigits n

theorem text_1 (n : Nat) (b : List UInt8) (h1 : n < 18446744073709551616) (hb : b.length ≤ 2097152) (hm : mayE 1 n b [] = 0) :
    C M 10 [.d (.int .i64 1), .d (valX 1 2 n b [])] = some (.tup [.str (textL 1 n b), .int .i64 0]) := by
  rw [c_fn (sf := f_scalar_Text) rfl rfl ⟨rfl, rfl⟩]
  have w1 := may_spec 1 2 1 n b [] (by omega) (by omega) hb (fun _ => rfl)
  have w2 := signed_spec 1
  have es : signedB 1 = false := by decide
  rw [es] at w2
  rw [hm] at w1
  simp only [valX] at w1 ⊢
  by_cases hn : n = 1
  · subst hn
    have e : textL 1 1 b = [116, 114, 117, 101] := by simp [textL]
    have w3 := fbool_spec true
    rw [if_pos rfl] at w3
    simp only [Int.cast_ofNat_Int] at w1 ⊢
    rw [e]
    simp -implicitDefEqProofs (maxSteps := 1000000) (disch := omega) only [↓Int.reduceLT, ↓Int.reduceLE, ↓Int.reduceEq, ↓Nat.reduceEqDiff, Nat.reduceBEq, ↓reduceIte, St.toRS, restrict, initEnv, plainArgs, reduceCtorEq, Nat.reduceEqDiff, Nat.reduceAdd, Nat.reduceMul, Int.reduceLT, Int.reduceLE, Int.reduceEq, Int.reduceNeg, Int.reduceAdd, Int.reduceToNat, Int.reduceNe, Nat.reduceSub, Int.reducePow, Int.reduceMul, vb0, vb1, vb2, vb3, vb4, vb5, vb6, vb7, f_scalar_Text, w1, w3, sub, fill, setAt, List.set_cons_zero, List.set_cons_succ, List.getElem?_cons_zero, List.getElem?_cons_succ, List.drop_zero, List.take_succ_cons, List.take_zero]
  · have e : textL 1 n b = [102, 97, 108, 115, 101] := by simp [textL, hn]
    have w3 := fbool_spec false
    rw [if_neg (by decide)] at w3
    rw [e]
    simp -implicitDefEqProofs (maxSteps := 1000000) (disch := omega) only [↓Int.reduceLT, ↓Int.reduceLE, ↓Int.reduceEq, ↓Nat.reduceEqDiff, Nat.reduceBEq, ↓reduceIte, St.toRS, restrict, initEnv, plainArgs, reduceCtorEq, Nat.reduceEqDiff, Nat.reduceAdd, Nat.reduceMul, Int.reduceLT, Int.reduceLE, Int.reduceEq, Int.reduceNeg, Int.reduceAdd, Int.reduceToNat, Int.reduceNe, Nat.reduceSub, Int.reducePow, Int.reduceMul, vb0, vb1, vb2, vb3, vb4, vb5, vb6, vb7, f_scalar_Text, w1, w3, sub, fill, setAt, List.set_cons_zero, List.set_cons_succ, List.getElem?_cons_zero, List.getElem?_cons_succ, List.drop_zero, List.take_succ_cons, List.take_zero]
theorem text_2 (n : Nat) (b : List UInt8) (h1 : n < 18446744073709551616) (hb : b.length ≤ 2097152) (hm : mayE 2 n b [] = 0) :
    C M 10 [.d (.int .i64 2), .d (valX 1 2 n b [])] = some (.tup [.str (textL 2 n b), .int .i64 0]) := by
  rw [c_fn (sf := f_scalar_Text) rfl rfl ⟨rfl, rfl⟩]
  have w1 := may_spec 1 2 2 n b [] (by omega) (by omega) hb (fun _ => rfl)
  have w2 := signed_spec 2
  have es : signedB 2 = true := by decide
  rw [es] at w2
  rw [hm] at w1
  simp only [valX] at w1 ⊢
  have e : textL 2 n b = Lib.itoa (sgn n) := by simp [textL, signedB]
  have sl := sgn_lo h1
  have w3 := fint_spec (sgn n) sl.1 sl.2
  have w4 := wrap_sgn (n := (n : Int)) (by omega) (by omega)
  rw [e]
  generalize Lib.itoa (sgn n) = P at *
  simp -implicitDefEqProofs (maxSteps := 1000000) (disch := omega) only [↓Int.reduceLT, ↓Int.reduceLE, ↓Int.reduceEq, ↓Nat.reduceEqDiff, Nat.reduceBEq, ↓reduceIte, St.toRS, restrict, initEnv, plainArgs, reduceCtorEq, Nat.reduceEqDiff, Nat.reduceAdd, Nat.reduceMul, Int.reduceLT, Int.reduceLE, Int.reduceEq, Int.reduceNeg, Int.reduceAdd, Int.reduceToNat, Int.reduceNe, Nat.reduceSub, Int.reducePow, Int.reduceMul, vb0, vb1, vb2, vb3, vb4, vb5, vb6, vb7, f_scalar_Text, w1, w2, w3, w4, sub, fill, setAt, List.set_cons_zero, List.set_cons_succ, List.getElem?_cons_zero, List.getElem?_cons_succ, List.drop_zero, List.take_succ_cons, List.take_zero]
theorem text_3 (n : Nat) (b : List UInt8) (h1 : n < 18446744073709551616) (hb : b.length ≤ 2097152) (hm : mayE 3 n b [] = 0) :
    C M 10 [.d (.int .i64 3), .d (valX 1 2 n b [])] = some (.tup [.str (textL 3 n b), .int .i64 0]) := by
  rw [c_fn (sf := f_scalar_Text) rfl rfl ⟨rfl, rfl⟩]
  have w1 := may_spec 1 2 3 n b [] (by omega) (by omega) hb (fun _ => rfl)
  have w2 := signed_spec 3
  have es : signedB 3 = true := by decide
  rw [es] at w2
  rw [hm] at w1
  simp only [valX] at w1 ⊢
  have e : textL 3 n b = Lib.itoa (sgn n) := by simp [textL, signedB]
  have sl := sgn_lo h1
  have w3 := fint_spec (sgn n) sl.1 sl.2
  have w4 := wrap_sgn (n := (n : Int)) (by omega) (by omega)
  rw [e]
  generalize Lib.itoa (sgn n) = P at *
  simp -implicitDefEqProofs (maxSteps := 1000000) (disch := omega) only [↓Int.reduceLT, ↓Int.reduceLE, ↓Int.reduceEq, ↓Nat.reduceEqDiff, Nat.reduceBEq, ↓reduceIte, St.toRS, restrict, initEnv, plainArgs, reduceCtorEq, Nat.reduceEqDiff, Nat.reduceAdd, Nat.reduceMul, Int.reduceLT, Int.reduceLE, Int.reduceEq, Int.reduceNeg, Int.reduceAdd, Int.reduceToNat, Int.reduceNe, Nat.reduceSub, Int.reducePow, Int.reduceMul, vb0, vb1, vb2, vb3, vb4, vb5, vb6, vb7, f_scalar_Text, w1, w2, w3, w4, sub, fill, setAt, List.set_cons_zero, List.set_cons_succ, List.getElem?_cons_zero, List.getElem?_cons_succ, List.drop_zero, List.take_succ_cons, List.take_zero]
theorem text_4 (n : Nat) (b : List UInt8) (h1 : n < 18446744073709551616) (hb : b.length ≤ 2097152) (hm : mayE 4 n b [] = 0) :
    C M 10 [.d (.int .i64 4), .d (valX 1 2 n b [])] = some (.tup [.str (textL 4 n b), .int .i64 0]) := by
  rw [c_fn (sf := f_scalar_Text) rfl rfl ⟨rfl, rfl⟩]
  have w1 := may_spec 1 2 4 n b [] (by omega) (by omega) hb (fun _ => rfl)
  have w2 := signed_spec 4
  have es : signedB 4 = false := by decide
  rw [es] at w2
  rw [hm] at w1
  simp only [valX] at w1 ⊢
  have e : textL 4 n b = Lib.decDigits n := by simp [textL, signedB]
  have w3 := fuint10_spec n h1
  rw [e]
  generalize Lib.decDigits n = P at *
  simp -implicitDefEqProofs (maxSteps := 1000000) (disch := omega) only [↓Int.reduceLT, ↓Int.reduceLE, ↓Int.reduceEq, ↓Nat.reduceEqDiff, Nat.reduceBEq, ↓reduceIte, St.toRS, restrict, initEnv, plainArgs, reduceCtorEq, Nat.reduceEqDiff, Nat.reduceAdd, Nat.reduceMul, Int.reduceLT, Int.reduceLE, Int.reduceEq, Int.reduceNeg, Int.reduceAdd, Int.reduceToNat, Int.reduceNe, Nat.reduceSub, Int.reducePow, Int.reduceMul, vb0, vb1, vb2, vb3, vb4, vb5, vb6, vb7, f_scalar_Text, w1, w2, w3, sub, fill, setAt, List.set_cons_zero, List.set_cons_succ, List.getElem?_cons_zero, List.getElem?_cons_succ, List.drop_zero, List.take_succ_cons, List.take_zero]
theorem text_5 (n : Nat) (b : List UInt8) (h1 : n < 18446744073709551616) (hb : b.length ≤ 2097152) (hm : mayE 5 n b [] = 0) :
    C M 10 [.d (.int .i64 5), .d (valX 1 2 n b [])] = some (.tup [.str (textL 5 n b), .int .i64 0]) := by
  rw [c_fn (sf := f_scalar_Text) rfl rfl ⟨rfl, rfl⟩]
  have w1 := may_spec 1 2 5 n b [] (by omega) (by omega) hb (fun _ => rfl)
  have w2 := signed_spec 5
  have es : signedB 5 = false := by decide
  rw [es] at w2
  rw [hm] at w1
  simp only [valX] at w1 ⊢
  have e : textL 5 n b = Lib.decDigits n := by simp [textL, signedB]
  have w3 := fuint10_spec n h1
  rw [e]
  generalize Lib.decDigits n = P at *
  simp -implicitDefEqProofs (maxSteps := 1000000) (disch := omega) only [↓Int.reduceLT, ↓Int.reduceLE, ↓Int.reduceEq, ↓Nat.reduceEqDiff, Nat.reduceBEq, ↓reduceIte, St.toRS, restrict, initEnv, plainArgs, reduceCtorEq, Nat.reduceEqDiff, Nat.reduceAdd, Nat.reduceMul, Int.reduceLT, Int.reduceLE, Int.reduceEq, Int.reduceNeg, Int.reduceAdd, Int.reduceToNat, Int.reduceNe, Nat.reduceSub, Int.reducePow, Int.reduceMul, vb0, vb1, vb2, vb3, vb4, vb5, vb6, vb7, f_scalar_Text, w1, w2, w3, sub, fill, setAt, List.set_cons_zero, List.set_cons_succ, List.getElem?_cons_zero, List.getElem?_cons_succ, List.drop_zero, List.take_succ_cons, List.take_zero]
theorem text_6 (n : Nat) (b : List UInt8) (h1 : n < 18446744073709551616) (hb : b.length ≤ 2097152) (hm : mayE 6 n b [] = 0) :
    C M 10 [.d (.int .i64 6), .d (valX 1 2 n b [])] = some (.tup [.str (textL 6 n b), .int .i64 0]) := by
  rw [c_fn (sf := f_scalar_Text) rfl rfl ⟨rfl, rfl⟩]
  have w1 := may_spec 1 2 6 n b [] (by omega) (by omega) hb (fun _ => rfl)
  have w2 := signed_spec 6
  have es : signedB 6 = true := by decide
  rw [es] at w2
  rw [hm] at w1
  simp only [valX] at w1 ⊢
  have e : textL 6 n b = Lib.itoa (sgn n) := by simp [textL, signedB]
  have sl := sgn_lo h1
  have w3 := fint_spec (sgn n) sl.1 sl.2
  have w4 := wrap_sgn (n := (n : Int)) (by omega) (by omega)
  rw [e]
  generalize Lib.itoa (sgn n) = P at *
  simp -implicitDefEqProofs (maxSteps := 1000000) (disch := omega) only [↓Int.reduceLT, ↓Int.reduceLE, ↓Int.reduceEq, ↓Nat.reduceEqDiff, Nat.reduceBEq, ↓reduceIte, St.toRS, restrict, initEnv, plainArgs, reduceCtorEq, Nat.reduceEqDiff, Nat.reduceAdd, Nat.reduceMul, Int.reduceLT, Int.reduceLE, Int.reduceEq, Int.reduceNeg, Int.reduceAdd, Int.reduceToNat, Int.reduceNe, Nat.reduceSub, Int.reducePow, Int.reduceMul, vb0, vb1, vb2, vb3, vb4, vb5, vb6, vb7, f_scalar_Text, w1, w2, w3, w4, sub, fill, setAt, List.set_cons_zero, List.set_cons_succ, List.getElem?_cons_zero, List.getElem?_cons_succ, List.drop_zero, List.take_succ_cons, List.take_zero]
theorem text_7 (n : Nat) (b : List UInt8) (h1 : n < 18446744073709551616) (hb : b.length ≤ 2097152) (hm : mayE 7 n b [] = 0) :
    C M 10 [.d (.int .i64 7), .d (valX 1 2 n b [])] = some (.tup [.str (textL 7 n b), .int .i64 0]) := by
  rw [c_fn (sf := f_scalar_Text) rfl rfl ⟨rfl, rfl⟩]
  have w1 := may_spec 1 2 7 n b [] (by omega) (by omega) hb (fun _ => rfl)
  have w2 := signed_spec 7
  have es : signedB 7 = true := by decide
  rw [es] at w2
  rw [hm] at w1
  simp only [valX] at w1 ⊢
  have e : textL 7 n b = Lib.itoa (sgn n) := by simp [textL, signedB]
  have sl := sgn_lo h1
  have w3 := fint_spec (sgn n) sl.1 sl.2
  have w4 := wrap_sgn (n := (n : Int)) (by omega) (by omega)
  rw [e]
  generalize Lib.itoa (sgn n) = P at *
  simp -implicitDefEqProofs (maxSteps := 1000000) (disch := omega) only [↓Int.reduceLT, ↓Int.reduceLE, ↓Int.reduceEq, ↓Nat.reduceEqDiff, Nat.reduceBEq, ↓reduceIte, St.toRS, restrict, initEnv, plainArgs, reduceCtorEq, Nat.reduceEqDiff, Nat.reduceAdd, Nat.reduceMul, Int.reduceLT, Int.reduceLE, Int.reduceEq, Int.reduceNeg, Int.reduceAdd, Int.reduceToNat, Int.reduceNe, Nat.reduceSub, Int.reducePow, Int.reduceMul, vb0, vb1, vb2, vb3, vb4, vb5, vb6, vb7, f_scalar_Text, w1, w2, w3, w4, sub, fill, setAt, List.set_cons_zero, List.set_cons_succ, List.getElem?_cons_zero, List.getElem?_cons_succ, List.drop_zero, List.take_succ_cons, List.take_zero]
theorem text_8 (n : Nat) (b : List UInt8) (h1 : n < 18446744073709551616) (hb : b.length ≤ 2097152) (hm : mayE 8 n b [] = 0) :
    C M 10 [.d (.int .i64 8), .d (valX 1 2 n b [])] = some (.tup [.str (textL 8 n b), .int .i64 0]) := by
  rw [c_fn (sf := f_scalar_Text) rfl rfl ⟨rfl, rfl⟩]
  have w1 := may_spec 1 2 8 n b [] (by omega) (by omega) hb (fun _ => rfl)
  have w2 := signed_spec 8
  have es : signedB 8 = false := by decide
  rw [es] at w2
  rw [hm] at w1
  simp only [valX] at w1 ⊢
  have e : textL 8 n b = Lib.decDigits n := by simp [textL, signedB]
  have w3 := fuint10_spec n h1
  rw [e]
  generalize Lib.decDigits n = P at *
  simp -implicitDefEqProofs (maxSteps := 1000000) (disch := omega) only [↓Int.reduceLT, ↓Int.reduceLE, ↓Int.reduceEq, ↓Nat.reduceEqDiff, Nat.reduceBEq, ↓reduceIte, St.toRS, restrict, initEnv, plainArgs, reduceCtorEq, Nat.reduceEqDiff, Nat.reduceAdd, Nat.reduceMul, Int.reduceLT, Int.reduceLE, Int.reduceEq, Int.reduceNeg, Int.reduceAdd, Int.reduceToNat, Int.reduceNe, Nat.reduceSub, Int.reducePow, Int.reduceMul, vb0, vb1, vb2, vb3, vb4, vb5, vb6, vb7, f_scalar_Text, w1, w2, w3, sub, fill, setAt, List.set_cons_zero, List.set_cons_succ, List.getElem?_cons_zero, List.getElem?_cons_succ, List.drop_zero, List.take_succ_cons, List.take_zero]
theorem text_9 (n : Nat) (b : List UInt8) (h1 : n < 18446744073709551616) (hb : b.length ≤ 2097152) (hm : mayE 9 n b [] = 0) :
    C M 10 [.d (.int .i64 9), .d (valX 1 2 n b [])] = some (.tup [.str (textL 9 n b), .int .i64 0]) := by
  rw [c_fn (sf := f_scalar_Text) rfl rfl ⟨rfl, rfl⟩]
  have w1 := may_spec 1 2 9 n b [] (by omega) (by omega) hb (fun _ => rfl)
  have w2 := signed_spec 9
  have es : signedB 9 = false := by decide
  rw [es] at w2
  rw [hm] at w1
  simp only [valX] at w1 ⊢
  have e : textL 9 n b = Lib.decDigits n := by simp [textL, signedB]
  have w3 := fuint10_spec n h1
  rw [e]
  generalize Lib.decDigits n = P at *
  simp -implicitDefEqProofs (maxSteps := 1000000) (disch := omega) only [↓Int.reduceLT, ↓Int.reduceLE, ↓Int.reduceEq, ↓Nat.reduceEqDiff, Nat.reduceBEq, ↓reduceIte, St.toRS, restrict, initEnv, plainArgs, reduceCtorEq, Nat.reduceEqDiff, Nat.reduceAdd, Nat.reduceMul, Int.reduceLT, Int.reduceLE, Int.reduceEq, Int.reduceNeg, Int.reduceAdd, Int.reduceToNat, Int.reduceNe, Nat.reduceSub, Int.reducePow, Int.reduceMul, vb0, vb1, vb2, vb3, vb4, vb5, vb6, vb7, f_scalar_Text, w1, w2, w3, sub, fill, setAt, List.set_cons_zero, List.set_cons_succ, List.getElem?_cons_zero, List.getElem?_cons_succ, List.drop_zero, List.take_succ_cons, List.take_zero]
theorem text_10 (n : Nat) (b : List UInt8) (h1 : n < 18446744073709551616) (hb : b.length ≤ 2097152) (hm : mayE 10 n b [] = 0) :
    C M 10 [.d (.int .i64 10), .d (valX 1 2 n b [])] = some (.tup [.str (textL 10 n b), .int .i64 0]) := by
  rw [c_fn (sf := f_scalar_Text) rfl rfl ⟨rfl, rfl⟩]
  have w1 := may_spec 1 2 10 n b [] (by omega) (by omega) hb (fun _ => rfl)
  have w2 := signed_spec 10
  have es : signedB 10 = true := by decide
  rw [es] at w2
  rw [hm] at w1
  simp only [valX] at w1 ⊢
  have e : textL 10 n b = Lib.itoa (sgn n) := by simp [textL, signedB]
  have sl := sgn_lo h1
  have w3 := fint_spec (sgn n) sl.1 sl.2
  have w4 := wrap_sgn (n := (n : Int)) (by omega) (by omega)
  rw [e]
  generalize Lib.itoa (sgn n) = P at *
  simp -implicitDefEqProofs (maxSteps := 1000000) (disch := omega) only [↓Int.reduceLT, ↓Int.reduceLE, ↓Int.reduceEq, ↓Nat.reduceEqDiff, Nat.reduceBEq, ↓reduceIte, St.toRS, restrict, initEnv, plainArgs, reduceCtorEq, Nat.reduceEqDiff, Nat.reduceAdd, Nat.reduceMul, Int.reduceLT, Int.reduceLE, Int.reduceEq, Int.reduceNeg, Int.reduceAdd, Int.reduceToNat, Int.reduceNe, Nat.reduceSub, Int.reducePow, Int.reduceMul, vb0, vb1, vb2, vb3, vb4, vb5, vb6, vb7, f_scalar_Text, w1, w2, w3, w4, sub, fill, setAt, List.set_cons_zero, List.set_cons_succ, List.getElem?_cons_zero, List.getElem?_cons_succ, List.drop_zero, List.take_succ_cons, List.take_zero]
theorem text_11 (n : Nat) (b : List UInt8) (h1 : n < 18446744073709551616) (hb : b.length ≤ 2097152) (hm : mayE 11 n b [] = 0) :
    C M 10 [.d (.int .i64 11), .d (valX 1 2 n b [])] = some (.tup [.str (textL 11 n b), .int .i64 0]) := by
  rw [c_fn (sf := f_scalar_Text) rfl rfl ⟨rfl, rfl⟩]
  have w1 := may_spec 1 2 11 n b [] (by omega) (by omega) hb (fun _ => rfl)
  have w2 := signed_spec 11
  have es : signedB 11 = true := by decide
  rw [es] at w2
  rw [hm] at w1
  simp only [valX] at w1 ⊢
  have e : textL 11 n b = Lib.itoa (sgn n) := by simp [textL, signedB]
  have sl := sgn_lo h1
  have w3 := fint_spec (sgn n) sl.1 sl.2
  have w4 := wrap_sgn (n := (n : Int)) (by omega) (by omega)
  rw [e]
  generalize Lib.itoa (sgn n) = P at *
  simp -implicitDefEqProofs (maxSteps := 1000000) (disch := omega) only [↓Int.reduceLT, ↓Int.reduceLE, ↓Int.reduceEq, ↓Nat.reduceEqDiff, Nat.reduceBEq, ↓reduceIte, St.toRS, restrict, initEnv, plainArgs, reduceCtorEq, Nat.reduceEqDiff, Nat.reduceAdd, Nat.reduceMul, Int.reduceLT, Int.reduceLE, Int.reduceEq, Int.reduceNeg, Int.reduceAdd, Int.reduceToNat, Int.reduceNe, Nat.reduceSub, Int.reducePow, Int.reduceMul, vb0, vb1, vb2, vb3, vb4, vb5, vb6, vb7, f_scalar_Text, w1, w2, w3, w4, sub, fill, setAt, List.set_cons_zero, List.set_cons_succ, List.getElem?_cons_zero, List.getElem?_cons_succ, List.drop_zero, List.take_succ_cons, List.take_zero]
theorem text_12 (n : Nat) (b : List UInt8) (h1 : n < 18446744073709551616) (hb : b.length ≤ 2097152) (hm : mayE 12 n b [] = 0) :
    C M 10 [.d (.int .i64 12), .d (valX 1 2 n b [])] = some (.tup [.str (textL 12 n b), .int .i64 0]) := by
  rw [c_fn (sf := f_scalar_Text) rfl rfl ⟨rfl, rfl⟩]
  have w1 := may_spec 1 2 12 n b [] (by omega) (by omega) hb (fun _ => rfl)
  have w2 := signed_spec 12
  have es : signedB 12 = false := by decide
  rw [es] at w2
  rw [hm] at w1
  simp only [valX] at w1 ⊢
  have e : textL 12 n b = 102 :: padL 8 n := by simp [textL]
  have hh := (may_num hm (by decide)).2.2
  have hn : n < 4294967296 := by simp [holdsB] at hh; omega
  have w3 := digits_spec n 8 h1 (by omega) (by omega) (by omega)
  have hl := pad_len 8 n (by omega) (by omega)
  simp only [Int.cast_ofNat_Int] at w3
  rw [e]
  generalize padL 8 n = P at *
  simp -implicitDefEqProofs (maxSteps := 1000000) (disch := omega) only [↓Int.reduceLT, ↓Int.reduceLE, ↓Int.reduceEq, ↓Nat.reduceEqDiff, Nat.reduceBEq, ↓reduceIte, St.toRS, restrict, initEnv, plainArgs, reduceCtorEq, Nat.reduceEqDiff, Nat.reduceAdd, Nat.reduceMul, Int.reduceLT, Int.reduceLE, Int.reduceEq, Int.reduceNeg, Int.reduceAdd, Int.reduceToNat, Int.reduceNe, Nat.reduceSub, Int.reducePow, Int.reduceMul, vb0, vb1, vb2, vb3, vb4, vb5, vb6, vb7, f_scalar_Text, w1, w3, List.cons_append, List.nil_append, sub, fill, setAt, List.set_cons_zero, List.set_cons_succ, List.getElem?_cons_zero, List.getElem?_cons_succ, List.drop_zero, List.take_succ_cons, List.take_zero]
theorem text_13 (n : Nat) (b : List UInt8) (h1 : n < 18446744073709551616) (hb : b.length ≤ 2097152) (hm : mayE 13 n b [] = 0) :
    C M 10 [.d (.int .i64 13), .d (valX 1 2 n b [])] = some (.tup [.str (textL 13 n b), .int .i64 0]) := by
  rw [c_fn (sf := f_scalar_Text) rfl rfl ⟨rfl, rfl⟩]
  have w1 := may_spec 1 2 13 n b [] (by omega) (by omega) hb (fun _ => rfl)
  have w2 := signed_spec 13
  have es : signedB 13 = false := by decide
  rw [es] at w2
  rw [hm] at w1
  simp only [valX] at w1 ⊢
  have e : textL 13 n b = 100 :: padL 16 n := by simp [textL]
  have hh := (may_num hm (by decide)).2.2
  have w3 := digits_spec n 16 h1 (by omega) (by omega) (by omega)
  have hl := pad_len 16 n (by omega) (by omega)
  simp only [Int.cast_ofNat_Int] at w3
  rw [e]
  generalize padL 16 n = P at *
  simp -implicitDefEqProofs (maxSteps := 1000000) (disch := omega) only [↓Int.reduceLT, ↓Int.reduceLE, ↓Int.reduceEq, ↓Nat.reduceEqDiff, Nat.reduceBEq, ↓reduceIte, St.toRS, restrict, initEnv, plainArgs, reduceCtorEq, Nat.reduceEqDiff, Nat.reduceAdd, Nat.reduceMul, Int.reduceLT, Int.reduceLE, Int.reduceEq, Int.reduceNeg, Int.reduceAdd, Int.reduceToNat, Int.reduceNe, Nat.reduceSub, Int.reducePow, Int.reduceMul, vb0, vb1, vb2, vb3, vb4, vb5, vb6, vb7, f_scalar_Text, w1, w3, List.cons_append, List.nil_append, sub, fill, setAt, List.set_cons_zero, List.set_cons_succ, List.getElem?_cons_zero, List.getElem?_cons_succ, List.drop_zero, List.take_succ_cons, List.take_zero]
theorem text_14 (n : Nat) (b : List UInt8) (h1 : n < 18446744073709551616) (hb : b.length ≤ 2097152) (hm : mayE 14 n b [] = 0) :
    C M 10 [.d (.int .i64 14), .d (valX 1 2 n b [])] = some (.tup [.str (textL 14 n b), .int .i64 0]) := by
  rw [c_fn (sf := f_scalar_Text) rfl rfl ⟨rfl, rfl⟩]
  have w1 := may_spec 1 2 14 n b [] (by omega) (by omega) hb (fun _ => rfl)
  have w2 := signed_spec 14
  have es : signedB 14 = false := by decide
  rw [es] at w2
  rw [hm] at w1
  simp only [valX] at w1 ⊢
  have e : textL 14 n b = quoteL b := by simp [textL]
  have w3 := quote_spec b (by omega)
  simp only [n_quote_Quote] at w3
  rw [e]
  generalize quoteL b = P at *
  simp -implicitDefEqProofs (maxSteps := 1000000) (disch := omega) only [↓Int.reduceLT, ↓Int.reduceLE, ↓Int.reduceEq, ↓Nat.reduceEqDiff, Nat.reduceBEq, ↓reduceIte, St.toRS, restrict, initEnv, plainArgs, reduceCtorEq, Nat.reduceEqDiff, Nat.reduceAdd, Nat.reduceMul, Int.reduceLT, Int.reduceLE, Int.reduceEq, Int.reduceNeg, Int.reduceAdd, Int.reduceToNat, Int.reduceNe, Nat.reduceSub, Int.reducePow, Int.reduceMul, vb0, vb1, vb2, vb3, vb4, vb5, vb6, vb7, f_scalar_Text, w1, w3, sub, fill, setAt, List.set_cons_zero, List.set_cons_succ, List.getElem?_cons_zero, List.getElem?_cons_succ, List.drop_zero, List.take_succ_cons, List.take_zero]
theorem text_15 (n : Nat) (b : List UInt8) (h1 : n < 18446744073709551616) (hb : b.length ≤ 2097152) (hm : mayE 15 n b [] = 0) :
    C M 10 [.d (.int .i64 15), .d (valX 1 2 n b [])] = some (.tup [.str (textL 15 n b), .int .i64 0]) := by
  rw [c_fn (sf := f_scalar_Text) rfl rfl ⟨rfl, rfl⟩]
  have w1 := may_spec 1 2 15 n b [] (by omega) (by omega) hb (fun _ => rfl)
  have w2 := signed_spec 15
  have es : signedB 15 = false := by decide
  rw [es] at w2
  rw [hm] at w1
  simp only [valX] at w1 ⊢
  have e : textL 15 n b = quoteL b := by simp [textL]
  have w3 := quote_spec b (by omega)
  simp only [n_quote_Quote] at w3
  rw [e]
  generalize quoteL b = P at *
  simp -implicitDefEqProofs (maxSteps := 1000000) (disch := omega) only [↓Int.reduceLT, ↓Int.reduceLE, ↓Int.reduceEq, ↓Nat.reduceEqDiff, Nat.reduceBEq, ↓reduceIte, St.toRS, restrict, initEnv, plainArgs, reduceCtorEq, Nat.reduceEqDiff, Nat.reduceAdd, Nat.reduceMul, Int.reduceLT, Int.reduceLE, Int.reduceEq, Int.reduceNeg, Int.reduceAdd, Int.reduceToNat, Int.reduceNe, Nat.reduceSub, Int.reducePow, Int.reduceMul, vb0, vb1, vb2, vb3, vb4, vb5, vb6, vb7, f_scalar_Text, w1, w3, sub, fill, setAt, List.set_cons_zero, List.set_cons_succ, List.getElem?_cons_zero, List.getElem?_cons_succ, List.drop_zero, List.take_succ_cons, List.take_zero]
theorem text_16 (n : Nat) (b : List UInt8) (h1 : n < 18446744073709551616) (hb : b.length ≤ 2097152) (hm : mayE 16 n b [] = 0) :
    C M 10 [.d (.int .i64 16), .d (valX 1 2 n b [])] = some (.tup [.str (textL 16 n b), .int .i64 0]) := by
  rw [c_fn (sf := f_scalar_Text) rfl rfl ⟨rfl, rfl⟩]
  have w1 := may_spec 1 2 16 n b [] (by omega) (by omega) hb (fun _ => rfl)
  have w2 := signed_spec 16
  have es : signedB 16 = false := by decide
  rw [es] at w2
  rw [hm] at w1
  simp only [valX] at w1 ⊢
  have e : textL 16 n b = Lib.decDigits n := by simp [textL, signedB]
  have w3 := fuint10_spec n h1
  rw [e]
  generalize Lib.decDigits n = P at *
  simp -implicitDefEqProofs (maxSteps := 1000000) (disch := omega) only [↓Int.reduceLT, ↓Int.reduceLE, ↓Int.reduceEq, ↓Nat.reduceEqDiff, Nat.reduceBEq, ↓reduceIte, St.toRS, restrict, initEnv, plainArgs, reduceCtorEq, Nat.reduceEqDiff, Nat.reduceAdd, Nat.reduceMul, Int.reduceLT, Int.reduceLE, Int.reduceEq, Int.reduceNeg, Int.reduceAdd, Int.reduceToNat, Int.reduceNe, Nat.reduceSub, Int.reducePow, Int.reduceMul, vb0, vb1, vb2, vb3, vb4, vb5, vb6, vb7, f_scalar_Text, w1, w2, w3, sub, fill, setAt, List.set_cons_zero, List.set_cons_succ, List.getElem?_cons_zero, List.getElem?_cons_succ, List.drop_zero, List.take_succ_cons, List.take_zero]
end Go.Proofs.YtedncpnkbpbchaaGreatDoor
