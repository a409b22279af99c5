/-
  Values read back: what the program and the reference answer, over data.
-/
import Derived.Test.YtedncpnkbpbchaaGreatDoorPut
set_option linter.unusedVariables false
set_option linter.unusedSimpArgs false
set_option maxRecDepth 100000
set_option maxHeartbeats 16000000
namespace Go.Proofs.YtedncpnkbpbchaaGreatDoor
open Go.Vi

def zeroV : D := .agg [.int .u64 0, .slice 0 [], .slice 0 []]
def rawN (k : Int) (b : List UInt8) (a : Nat) : Nat × Nat × Nat := if wireI k = 5 then rdP b a 4 else if wireI k = 1 then rdP b a 8 else gvF b a 10 0 0
def fixN (k : Int) (n : Nat) : Int := if k = 10 then IntKind.u64.wrap (IntKind.i32.wrap n) else if k = 6 ∨ k = 7 then IntKind.u64.wrap (zag n) else n
theorem wrap_u64_lo (x : Int) : 0 ≤ IntKind.u64.wrap x ∧ IntKind.u64.wrap x ≤ 18446744073709551615 := by
  simp [IntKind.wrap, IntKind.min, IntKind.max, IntKind.signed, IntKind.bits]
  omega
theorem wrap_i32_lo (x : Int) : -2147483648 ≤ IntKind.i32.wrap x ∧ IntKind.i32.wrap x ≤ 2147483647 := by
  obtain ⟨z, h⟩ := wrap_low (n := x)
  exact h.2
theorem fixN_lo (k : Int) (n : Nat) (h : n < 18446744073709551616) : 0 ≤ fixN k n ∧ fixN k n ≤ 18446744073709551615 := by
  simp only [fixN]
  split
  · exact wrap_u64_lo _
  · split
    · exact wrap_u64_lo _
    · omega
def numO (k : Int) (r : Nat × Nat × Nat) : V :=
  if r.2.2 ≠ 0 then .tup [zeroV, .int .i64 0, .int .i64 r.2.2]
  else if holdsB k (fixN k r.1) = false then .tup [zeroV, .int .i64 0, .int .i64 7] else .tup [.agg [.int .u64 (fixN k r.1), .slice 0 [], .slice 0 []], .int .i64 r.2.1, .int .i64 0]
theorem mayE_num {k N : Int} (hk : numericB k = true) : mayE k N [] [] = if holdsB k N = false then 7 else 0 := by
  have h1 : knownB k = true := by simp only [numericB, decide_eq_true_eq] at hk; simp only [knownB, decide_eq_true_eq]; omega
  have h2 : k ≠ 14 := by simp only [numericB, decide_eq_true_eq] at hk; omega
  simp only [mayE, fitsB, h1, hk, h2]
  cases holdsB k N <;> simp
theorem rd_lt (b : List UInt8) (a s : Nat) (hs : s ≤ 8) : (rdP b a s).1 < 18446744073709551616 := by
  have h := leF_lt b a s
  have h2 : 2 ^ (8 * s) ≤ 2 ^ 64 := Nat.pow_le_pow_right (by omega) (by omega)
  simp only [rdP]; split <;> simp only <;> omega
theorem raw_lt (k : Int) (b : List UInt8) (a : Nat) : (rawN k b a).1 < 18446744073709551616 := by
  simp only [rawN]
  split
  · exact rd_lt b a 4 (by omega)
  · split
    · exact rd_lt b a 8 (by omega)
    · exact (gvF_ok b a 10 0 0 (by omega) (by omega)).1

theorem get_1 (b : List UInt8) (a : Nat) (hb : b.length ≤ 2097152) (ha : a ≤ b.length) : C M 9 [.d (.int .i64 1), .d (.slice 1 (bytesD b)), .d (.int .i64 a)] = some (numO 1 (rawN 1 b a)) := by
  rw [c_fn (sf := f_scalar_Get) rfl rfl ⟨rfl, rfl⟩]
  have g := getVarint_spec b a hb ha
  have w1 := known_spec 1
  have w2 := wire_spec 1
  have e1 : knownB 1 = true := by decide
  have er : rawN 1 b a = gvF b a 10 0 0 := by simp [rawN, wireI]
  have lt := raw_lt 1 b a
  have flo := fixN_lo 1 (rawN 1 b a).1 lt
  have ef : ∀ n : Nat, fixN 1 n = n := by intro n; simp [fixN]
  rw [e1] at w1
  simp only [er, gvD, Int.cast_ofNat_Int] at g lt flo ⊢
  generalize gvF b a 10 0 0 = r at *
  obtain ⟨n, t, e⟩ := r
  simp only [numO, ef] at g lt flo ⊢
  clear er ef
  have mm := may_spec 0 0 1 (n) [] [] flo.1 flo.2 (by simp) (by omega)
  rw [mayE_num (by decide)] at mm
  simp only [valX, bytesD_nil] at mm
  by_cases he : e = 0
  · subst he
    rw [if_neg (by simp)]
    cases hh : holdsB 1 n with
    | false =>
      simp only [hh, if_true] at mm ⊢
      simp -implicitDefEqProofs (maxSteps := 1000000) (disch := omega) only [↓Int.reduceLT, ↓Int.reduceLE, ↓Int.reduceEq, ↓Nat.reduceEqDiff, Nat.reduceBEq, ↓reduceIte, St.toRS, restrict, initEnv, plainArgs, reduceCtorEq, Nat.reduceEqDiff, Nat.reduceAdd, Nat.reduceMul, Int.reduceLT, Int.reduceLE, Int.reduceEq, Int.reduceNeg, Int.reduceAdd, Int.reduceToNat, Int.reduceNe, Nat.reduceSub, Int.reducePow, Int.reduceMul, vb0, vb1, vb2, vb3, vb4, vb5, vb6, vb7, f_scalar_Get, g, w1, w2, wireI, zeroV, sub, fill, setAt, List.set_cons_zero, List.set_cons_succ, List.getElem?_cons_zero, List.getElem?_cons_succ, List.drop_zero, List.take_succ_cons, List.take_zero, mm]
    | true =>
      simp only [hh, Bool.true_eq_false, if_false] at mm ⊢
      simp -implicitDefEqProofs (maxSteps := 1000000) (disch := omega) only [↓Int.reduceLT, ↓Int.reduceLE, ↓Int.reduceEq, ↓Nat.reduceEqDiff, Nat.reduceBEq, ↓reduceIte, St.toRS, restrict, initEnv, plainArgs, reduceCtorEq, Nat.reduceEqDiff, Nat.reduceAdd, Nat.reduceMul, Int.reduceLT, Int.reduceLE, Int.reduceEq, Int.reduceNeg, Int.reduceAdd, Int.reduceToNat, Int.reduceNe, Nat.reduceSub, Int.reducePow, Int.reduceMul, vb0, vb1, vb2, vb3, vb4, vb5, vb6, vb7, f_scalar_Get, g, w1, w2, wireI, zeroV, sub, fill, setAt, List.set_cons_zero, List.set_cons_succ, List.getElem?_cons_zero, List.getElem?_cons_succ, List.drop_zero, List.take_succ_cons, List.take_zero, mm]
  · rw [if_pos he]
    clear mm
    simp -implicitDefEqProofs (maxSteps := 1000000) (disch := omega) only [↓Int.reduceLT, ↓Int.reduceLE, ↓Int.reduceEq, ↓Nat.reduceEqDiff, Nat.reduceBEq, ↓reduceIte, St.toRS, restrict, initEnv, plainArgs, reduceCtorEq, Nat.reduceEqDiff, Nat.reduceAdd, Nat.reduceMul, Int.reduceLT, Int.reduceLE, Int.reduceEq, Int.reduceNeg, Int.reduceAdd, Int.reduceToNat, Int.reduceNe, Nat.reduceSub, Int.reducePow, Int.reduceMul, vb0, vb1, vb2, vb3, vb4, vb5, vb6, vb7, f_scalar_Get, g, w1, w2, wireI, zeroV, sub, fill, setAt, List.set_cons_zero, List.set_cons_succ, List.getElem?_cons_zero, List.getElem?_cons_succ, List.drop_zero, List.take_succ_cons, List.take_zero]
theorem get_2 (b : List UInt8) (a : Nat) (hb : b.length ≤ 2097152) (ha : a ≤ b.length) : C M 9 [.d (.int .i64 2), .d (.slice 1 (bytesD b)), .d (.int .i64 a)] = some (numO 2 (rawN 2 b a)) := by
  rw [c_fn (sf := f_scalar_Get) rfl rfl ⟨rfl, rfl⟩]
  have g := getVarint_spec b a hb ha
  have w1 := known_spec 2
  have w2 := wire_spec 2
  have e1 : knownB 2 = true := by decide
  have er : rawN 2 b a = gvF b a 10 0 0 := by simp [rawN, wireI]
  have lt := raw_lt 2 b a
  have flo := fixN_lo 2 (rawN 2 b a).1 lt
  have ef : ∀ n : Nat, fixN 2 n = n := by intro n; simp [fixN]
  rw [e1] at w1
  simp only [er, gvD, Int.cast_ofNat_Int] at g lt flo ⊢
  generalize gvF b a 10 0 0 = r at *
  obtain ⟨n, t, e⟩ := r
  simp only [numO, ef] at g lt flo ⊢
  clear er ef
  have mm := may_spec 0 0 2 (n) [] [] flo.1 flo.2 (by simp) (by omega)
  rw [mayE_num (by decide)] at mm
  simp only [valX, bytesD_nil] at mm
  by_cases he : e = 0
  · subst he
    rw [if_neg (by simp)]
    cases hh : holdsB 2 n with
    | false =>
      simp only [hh, if_true] at mm ⊢
      simp -implicitDefEqProofs (maxSteps := 1000000) (disch := omega) only [↓Int.reduceLT, ↓Int.reduceLE, ↓Int.reduceEq, ↓Nat.reduceEqDiff, Nat.reduceBEq, ↓reduceIte, St.toRS, restrict, initEnv, plainArgs, reduceCtorEq, Nat.reduceEqDiff, Nat.reduceAdd, Nat.reduceMul, Int.reduceLT, Int.reduceLE, Int.reduceEq, Int.reduceNeg, Int.reduceAdd, Int.reduceToNat, Int.reduceNe, Nat.reduceSub, Int.reducePow, Int.reduceMul, vb0, vb1, vb2, vb3, vb4, vb5, vb6, vb7, f_scalar_Get, g, w1, w2, wireI, zeroV, sub, fill, setAt, List.set_cons_zero, List.set_cons_succ, List.getElem?_cons_zero, List.getElem?_cons_succ, List.drop_zero, List.take_succ_cons, List.take_zero, mm]
    | true =>
      simp only [hh, Bool.true_eq_false, if_false] at mm ⊢
      simp -implicitDefEqProofs (maxSteps := 1000000) (disch := omega) only [↓Int.reduceLT, ↓Int.reduceLE, ↓Int.reduceEq, ↓Nat.reduceEqDiff, Nat.reduceBEq, ↓reduceIte, St.toRS, restrict, initEnv, plainArgs, reduceCtorEq, Nat.reduceEqDiff, Nat.reduceAdd, Nat.reduceMul, Int.reduceLT, Int.reduceLE, Int.reduceEq, Int.reduceNeg, Int.reduceAdd, Int.reduceToNat, Int.reduceNe, Nat.reduceSub, Int.reducePow, Int.reduceMul, vb0, vb1, vb2, vb3, vb4, vb5, vb6, vb7, f_scalar_Get, g, w1, w2, wireI, zeroV, sub, fill, setAt, List.set_cons_zero, List.set_cons_succ, List.getElem?_cons_zero, List.getElem?_cons_succ, List.drop_zero, List.take_succ_cons, List.take_zero, mm]
  · rw [if_pos he]
    clear mm
    simp -implicitDefEqProofs (maxSteps := 1000000) (disch := omega) only [↓Int.reduceLT, ↓Int.reduceLE, ↓Int.reduceEq, ↓Nat.reduceEqDiff, Nat.reduceBEq, ↓reduceIte, St.toRS, restrict, initEnv, plainArgs, reduceCtorEq, Nat.reduceEqDiff, Nat.reduceAdd, Nat.reduceMul, Int.reduceLT, Int.reduceLE, Int.reduceEq, Int.reduceNeg, Int.reduceAdd, Int.reduceToNat, Int.reduceNe, Nat.reduceSub, Int.reducePow, Int.reduceMul, vb0, vb1, vb2, vb3, vb4, vb5, vb6, vb7, f_scalar_Get, g, w1, w2, wireI, zeroV, sub, fill, setAt, List.set_cons_zero, List.set_cons_succ, List.getElem?_cons_zero, List.getElem?_cons_succ, List.drop_zero, List.take_succ_cons, List.take_zero]
theorem get_3 (b : List UInt8) (a : Nat) (hb : b.length ≤ 2097152) (ha : a ≤ b.length) : C M 9 [.d (.int .i64 3), .d (.slice 1 (bytesD b)), .d (.int .i64 a)] = some (numO 3 (rawN 3 b a)) := by
  rw [c_fn (sf := f_scalar_Get) rfl rfl ⟨rfl, rfl⟩]
  have g := getVarint_spec b a hb ha
  have w1 := known_spec 3
  have w2 := wire_spec 3
  have e1 : knownB 3 = true := by decide
  have er : rawN 3 b a = gvF b a 10 0 0 := by simp [rawN, wireI]
  have lt := raw_lt 3 b a
  have flo := fixN_lo 3 (rawN 3 b a).1 lt
  have ef : ∀ n : Nat, fixN 3 n = n := by intro n; simp [fixN]
  rw [e1] at w1
  simp only [er, gvD, Int.cast_ofNat_Int] at g lt flo ⊢
  generalize gvF b a 10 0 0 = r at *
  obtain ⟨n, t, e⟩ := r
  simp only [numO, ef] at g lt flo ⊢
  clear er ef
  have mm := may_spec 0 0 3 (n) [] [] flo.1 flo.2 (by simp) (by omega)
  rw [mayE_num (by decide)] at mm
  simp only [valX, bytesD_nil] at mm
  by_cases he : e = 0
  · subst he
    rw [if_neg (by simp)]
    cases hh : holdsB 3 n with
    | false =>
      simp only [hh, if_true] at mm ⊢
      simp -implicitDefEqProofs (maxSteps := 1000000) (disch := omega) only [↓Int.reduceLT, ↓Int.reduceLE, ↓Int.reduceEq, ↓Nat.reduceEqDiff, Nat.reduceBEq, ↓reduceIte, St.toRS, restrict, initEnv, plainArgs, reduceCtorEq, Nat.reduceEqDiff, Nat.reduceAdd, Nat.reduceMul, Int.reduceLT, Int.reduceLE, Int.reduceEq, Int.reduceNeg, Int.reduceAdd, Int.reduceToNat, Int.reduceNe, Nat.reduceSub, Int.reducePow, Int.reduceMul, vb0, vb1, vb2, vb3, vb4, vb5, vb6, vb7, f_scalar_Get, g, w1, w2, wireI, zeroV, sub, fill, setAt, List.set_cons_zero, List.set_cons_succ, List.getElem?_cons_zero, List.getElem?_cons_succ, List.drop_zero, List.take_succ_cons, List.take_zero, mm]
    | true =>
      simp only [hh, Bool.true_eq_false, if_false] at mm ⊢
      simp -implicitDefEqProofs (maxSteps := 1000000) (disch := omega) only [↓Int.reduceLT, ↓Int.reduceLE, ↓Int.reduceEq, ↓Nat.reduceEqDiff, Nat.reduceBEq, ↓reduceIte, St.toRS, restrict, initEnv, plainArgs, reduceCtorEq, Nat.reduceEqDiff, Nat.reduceAdd, Nat.reduceMul, Int.reduceLT, Int.reduceLE, Int.reduceEq, Int.reduceNeg, Int.reduceAdd, Int.reduceToNat, Int.reduceNe, Nat.reduceSub, Int.reducePow, Int.reduceMul, vb0, vb1, vb2, vb3, vb4, vb5, vb6, vb7, f_scalar_Get, g, w1, w2, wireI, zeroV, sub, fill, setAt, List.set_cons_zero, List.set_cons_succ, List.getElem?_cons_zero, List.getElem?_cons_succ, List.drop_zero, List.take_succ_cons, List.take_zero, mm]
  · rw [if_pos he]
    clear mm
    simp -implicitDefEqProofs (maxSteps := 1000000) (disch := omega) only [↓Int.reduceLT, ↓Int.reduceLE, ↓Int.reduceEq, ↓Nat.reduceEqDiff, Nat.reduceBEq, ↓reduceIte, St.toRS, restrict, initEnv, plainArgs, reduceCtorEq, Nat.reduceEqDiff, Nat.reduceAdd, Nat.reduceMul, Int.reduceLT, Int.reduceLE, Int.reduceEq, Int.reduceNeg, Int.reduceAdd, Int.reduceToNat, Int.reduceNe, Nat.reduceSub, Int.reducePow, Int.reduceMul, vb0, vb1, vb2, vb3, vb4, vb5, vb6, vb7, f_scalar_Get, g, w1, w2, wireI, zeroV, sub, fill, setAt, List.set_cons_zero, List.set_cons_succ, List.getElem?_cons_zero, List.getElem?_cons_succ, List.drop_zero, List.take_succ_cons, List.take_zero]
theorem get_4 (b : List UInt8) (a : Nat) (hb : b.length ≤ 2097152) (ha : a ≤ b.length) : C M 9 [.d (.int .i64 4), .d (.slice 1 (bytesD b)), .d (.int .i64 a)] = some (numO 4 (rawN 4 b a)) := by
  rw [c_fn (sf := f_scalar_Get) rfl rfl ⟨rfl, rfl⟩]
  have g := getVarint_spec b a hb ha
  have w1 := known_spec 4
  have w2 := wire_spec 4
  have e1 : knownB 4 = true := by decide
  have er : rawN 4 b a = gvF b a 10 0 0 := by simp [rawN, wireI]
  have lt := raw_lt 4 b a
  have flo := fixN_lo 4 (rawN 4 b a).1 lt
  have ef : ∀ n : Nat, fixN 4 n = n := by intro n; simp [fixN]
  rw [e1] at w1
  simp only [er, gvD, Int.cast_ofNat_Int] at g lt flo ⊢
  generalize gvF b a 10 0 0 = r at *
  obtain ⟨n, t, e⟩ := r
  simp only [numO, ef] at g lt flo ⊢
  clear er ef
  have mm := may_spec 0 0 4 (n) [] [] flo.1 flo.2 (by simp) (by omega)
  rw [mayE_num (by decide)] at mm
  simp only [valX, bytesD_nil] at mm
  by_cases he : e = 0
  · subst he
    rw [if_neg (by simp)]
    cases hh : holdsB 4 n with
    | false =>
      simp only [hh, if_true] at mm ⊢
      simp -implicitDefEqProofs (maxSteps := 1000000) (disch := omega) only [↓Int.reduceLT, ↓Int.reduceLE, ↓Int.reduceEq, ↓Nat.reduceEqDiff, Nat.reduceBEq, ↓reduceIte, St.toRS, restrict, initEnv, plainArgs, reduceCtorEq, Nat.reduceEqDiff, Nat.reduceAdd, Nat.reduceMul, Int.reduceLT, Int.reduceLE, Int.reduceEq, Int.reduceNeg, Int.reduceAdd, Int.reduceToNat, Int.reduceNe, Nat.reduceSub, Int.reducePow, Int.reduceMul, vb0, vb1, vb2, vb3, vb4, vb5, vb6, vb7, f_scalar_Get, g, w1, w2, wireI, zeroV, sub, fill, setAt, List.set_cons_zero, List.set_cons_succ, List.getElem?_cons_zero, List.getElem?_cons_succ, List.drop_zero, List.take_succ_cons, List.take_zero, mm]
    | true =>
      simp only [hh, Bool.true_eq_false, if_false] at mm ⊢
      simp -implicitDefEqProofs (maxSteps := 1000000) (disch := omega) only [↓Int.reduceLT, ↓Int.reduceLE, ↓Int.reduceEq, ↓Nat.reduceEqDiff, Nat.reduceBEq, ↓reduceIte, St.toRS, restrict, initEnv, plainArgs, reduceCtorEq, Nat.reduceEqDiff, Nat.reduceAdd, Nat.reduceMul, Int.reduceLT, Int.reduceLE, Int.reduceEq, Int.reduceNeg, Int.reduceAdd, Int.reduceToNat, Int.reduceNe, Nat.reduceSub, Int.reducePow, Int.reduceMul, vb0, vb1, vb2, vb3, vb4, vb5, vb6, vb7, f_scalar_Get, g, w1, w2, wireI, zeroV, sub, fill, setAt, List.set_cons_zero, List.set_cons_succ, List.getElem?_cons_zero, List.getElem?_cons_succ, List.drop_zero, List.take_succ_cons, List.take_zero, mm]
  · rw [if_pos he]
    clear mm
    simp -implicitDefEqProofs (maxSteps := 1000000) (disch := omega) only [↓Int.reduceLT, ↓Int.reduceLE, ↓Int.reduceEq, ↓Nat.reduceEqDiff, Nat.reduceBEq, ↓reduceIte, St.toRS, restrict, initEnv, plainArgs, reduceCtorEq, Nat.reduceEqDiff, Nat.reduceAdd, Nat.reduceMul, Int.reduceLT, Int.reduceLE, Int.reduceEq, Int.reduceNeg, Int.reduceAdd, Int.reduceToNat, Int.reduceNe, Nat.reduceSub, Int.reducePow, Int.reduceMul, vb0, vb1, vb2, vb3, vb4, vb5, vb6, vb7, f_scalar_Get, g, w1, w2, wireI, zeroV, sub, fill, setAt, List.set_cons_zero, List.set_cons_succ, List.getElem?_cons_zero, List.getElem?_cons_succ, List.drop_zero, List.take_succ_cons, List.take_zero]
theorem get_5 (b : List UInt8) (a : Nat) (hb : b.length ≤ 2097152) (ha : a ≤ b.length) : C M 9 [.d (.int .i64 5), .d (.slice 1 (bytesD b)), .d (.int .i64 a)] = some (numO 5 (rawN 5 b a)) := by
  rw [c_fn (sf := f_scalar_Get) rfl rfl ⟨rfl, rfl⟩]
  have g := getVarint_spec b a hb ha
  have w1 := known_spec 5
  have w2 := wire_spec 5
  have e1 : knownB 5 = true := by decide
  have er : rawN 5 b a = gvF b a 10 0 0 := by simp [rawN, wireI]
  have lt := raw_lt 5 b a
  have flo := fixN_lo 5 (rawN 5 b a).1 lt
  have ef : ∀ n : Nat, fixN 5 n = n := by intro n; simp [fixN]
  rw [e1] at w1
  simp only [er, gvD, Int.cast_ofNat_Int] at g lt flo ⊢
  generalize gvF b a 10 0 0 = r at *
  obtain ⟨n, t, e⟩ := r
  simp only [numO, ef] at g lt flo ⊢
  clear er ef
  have mm := may_spec 0 0 5 (n) [] [] flo.1 flo.2 (by simp) (by omega)
  rw [mayE_num (by decide)] at mm
  simp only [valX, bytesD_nil] at mm
  by_cases he : e = 0
  · subst he
    rw [if_neg (by simp)]
    cases hh : holdsB 5 n with
    | false =>
      simp only [hh, if_true] at mm ⊢
      simp -implicitDefEqProofs (maxSteps := 1000000) (disch := omega) only [↓Int.reduceLT, ↓Int.reduceLE, ↓Int.reduceEq, ↓Nat.reduceEqDiff, Nat.reduceBEq, ↓reduceIte, St.toRS, restrict, initEnv, plainArgs, reduceCtorEq, Nat.reduceEqDiff, Nat.reduceAdd, Nat.reduceMul, Int.reduceLT, Int.reduceLE, Int.reduceEq, Int.reduceNeg, Int.reduceAdd, Int.reduceToNat, Int.reduceNe, Nat.reduceSub, Int.reducePow, Int.reduceMul, vb0, vb1, vb2, vb3, vb4, vb5, vb6, vb7, f_scalar_Get, g, w1, w2, wireI, zeroV, sub, fill, setAt, List.set_cons_zero, List.set_cons_succ, List.getElem?_cons_zero, List.getElem?_cons_succ, List.drop_zero, List.take_succ_cons, List.take_zero, mm]
    | true =>
      simp only [hh, Bool.true_eq_false, if_false] at mm ⊢
      simp -implicitDefEqProofs (maxSteps := 1000000) (disch := omega) only [↓Int.reduceLT, ↓Int.reduceLE, ↓Int.reduceEq, ↓Nat.reduceEqDiff, Nat.reduceBEq, ↓reduceIte, St.toRS, restrict, initEnv, plainArgs, reduceCtorEq, Nat.reduceEqDiff, Nat.reduceAdd, Nat.reduceMul, Int.reduceLT, Int.reduceLE, Int.reduceEq, Int.reduceNeg, Int.reduceAdd, Int.reduceToNat, Int.reduceNe, Nat.reduceSub, Int.reducePow, Int.reduceMul, vb0, vb1, vb2, vb3, vb4, vb5, vb6, vb7, f_scalar_Get, g, w1, w2, wireI, zeroV, sub, fill, setAt, List.set_cons_zero, List.set_cons_succ, List.getElem?_cons_zero, List.getElem?_cons_succ, List.drop_zero, List.take_succ_cons, List.take_zero, mm]
  · rw [if_pos he]
    clear mm
    simp -implicitDefEqProofs (maxSteps := 1000000) (disch := omega) only [↓Int.reduceLT, ↓Int.reduceLE, ↓Int.reduceEq, ↓Nat.reduceEqDiff, Nat.reduceBEq, ↓reduceIte, St.toRS, restrict, initEnv, plainArgs, reduceCtorEq, Nat.reduceEqDiff, Nat.reduceAdd, Nat.reduceMul, Int.reduceLT, Int.reduceLE, Int.reduceEq, Int.reduceNeg, Int.reduceAdd, Int.reduceToNat, Int.reduceNe, Nat.reduceSub, Int.reducePow, Int.reduceMul, vb0, vb1, vb2, vb3, vb4, vb5, vb6, vb7, f_scalar_Get, g, w1, w2, wireI, zeroV, sub, fill, setAt, List.set_cons_zero, List.set_cons_succ, List.getElem?_cons_zero, List.getElem?_cons_succ, List.drop_zero, List.take_succ_cons, List.take_zero]
theorem get_6 (b : List UInt8) (a : Nat) (hb : b.length ≤ 2097152) (ha : a ≤ b.length) : C M 9 [.d (.int .i64 6), .d (.slice 1 (bytesD b)), .d (.int .i64 a)] = some (numO 6 (rawN 6 b a)) := by
  rw [c_fn (sf := f_scalar_Get) rfl rfl ⟨rfl, rfl⟩]
  have g := getVarint_spec b a hb ha
  have w1 := known_spec 6
  have w2 := wire_spec 6
  have e1 : knownB 6 = true := by decide
  have er : rawN 6 b a = gvF b a 10 0 0 := by simp [rawN, wireI]
  have lt := raw_lt 6 b a
  have flo := fixN_lo 6 (rawN 6 b a).1 lt
  have ef : ∀ n : Nat, fixN 6 n = IntKind.u64.wrap (zag n) := by intro n; simp [fixN]
  rw [e1] at w1
  simp only [er, gvD, Int.cast_ofNat_Int] at g lt flo ⊢
  generalize gvF b a 10 0 0 = r at *
  obtain ⟨n, t, e⟩ := r
  simp only [numO, ef] at g lt flo ⊢
  clear er ef
  have zg := zagZig_spec n lt
  have mm := may_spec 0 0 6 (IntKind.u64.wrap (zag n)) [] [] flo.1 flo.2 (by simp) (by omega)
  rw [mayE_num (by decide)] at mm
  simp only [valX, bytesD_nil] at mm
  generalize hN : IntKind.u64.wrap (zag n) = N at *
  by_cases he : e = 0
  · subst he
    rw [if_neg (by simp)]
    cases hh : holdsB 6 N with
    | false =>
      simp only [hh, if_true] at mm ⊢
      simp -implicitDefEqProofs (maxSteps := 1000000) (disch := omega) only [↓Int.reduceLT, ↓Int.reduceLE, ↓Int.reduceEq, ↓Nat.reduceEqDiff, Nat.reduceBEq, ↓reduceIte, St.toRS, restrict, initEnv, plainArgs, reduceCtorEq, Nat.reduceEqDiff, Nat.reduceAdd, Nat.reduceMul, Int.reduceLT, Int.reduceLE, Int.reduceEq, Int.reduceNeg, Int.reduceAdd, Int.reduceToNat, Int.reduceNe, Nat.reduceSub, Int.reducePow, Int.reduceMul, vb0, vb1, vb2, vb3, vb4, vb5, vb6, vb7, f_scalar_Get, g, w1, w2, wireI, zeroV, zg, sub, fill, setAt, List.set_cons_zero, List.set_cons_succ, List.getElem?_cons_zero, List.getElem?_cons_succ, List.drop_zero, List.take_succ_cons, List.take_zero, hN, mm]
    | true =>
      simp only [hh, Bool.true_eq_false, if_false] at mm ⊢
      simp -implicitDefEqProofs (maxSteps := 1000000) (disch := omega) only [↓Int.reduceLT, ↓Int.reduceLE, ↓Int.reduceEq, ↓Nat.reduceEqDiff, Nat.reduceBEq, ↓reduceIte, St.toRS, restrict, initEnv, plainArgs, reduceCtorEq, Nat.reduceEqDiff, Nat.reduceAdd, Nat.reduceMul, Int.reduceLT, Int.reduceLE, Int.reduceEq, Int.reduceNeg, Int.reduceAdd, Int.reduceToNat, Int.reduceNe, Nat.reduceSub, Int.reducePow, Int.reduceMul, vb0, vb1, vb2, vb3, vb4, vb5, vb6, vb7, f_scalar_Get, g, w1, w2, wireI, zeroV, zg, sub, fill, setAt, List.set_cons_zero, List.set_cons_succ, List.getElem?_cons_zero, List.getElem?_cons_succ, List.drop_zero, List.take_succ_cons, List.take_zero, hN, mm]
  · rw [if_pos he]
    clear mm
    simp -implicitDefEqProofs (maxSteps := 1000000) (disch := omega) only [↓Int.reduceLT, ↓Int.reduceLE, ↓Int.reduceEq, ↓Nat.reduceEqDiff, Nat.reduceBEq, ↓reduceIte, St.toRS, restrict, initEnv, plainArgs, reduceCtorEq, Nat.reduceEqDiff, Nat.reduceAdd, Nat.reduceMul, Int.reduceLT, Int.reduceLE, Int.reduceEq, Int.reduceNeg, Int.reduceAdd, Int.reduceToNat, Int.reduceNe, Nat.reduceSub, Int.reducePow, Int.reduceMul, vb0, vb1, vb2, vb3, vb4, vb5, vb6, vb7, f_scalar_Get, g, w1, w2, wireI, zeroV, zg, sub, fill, setAt, List.set_cons_zero, List.set_cons_succ, List.getElem?_cons_zero, List.getElem?_cons_succ, List.drop_zero, List.take_succ_cons, List.take_zero, hN]
theorem get_7 (b : List UInt8) (a : Nat) (hb : b.length ≤ 2097152) (ha : a ≤ b.length) : C M 9 [.d (.int .i64 7), .d (.slice 1 (bytesD b)), .d (.int .i64 a)] = some (numO 7 (rawN 7 b a)) := by
  rw [c_fn (sf := f_scalar_Get) rfl rfl ⟨rfl, rfl⟩]
  have g := getVarint_spec b a hb ha
  have w1 := known_spec 7
  have w2 := wire_spec 7
  have e1 : knownB 7 = true := by decide
  have er : rawN 7 b a = gvF b a 10 0 0 := by simp [rawN, wireI]
  have lt := raw_lt 7 b a
  have flo := fixN_lo 7 (rawN 7 b a).1 lt
  have ef : ∀ n : Nat, fixN 7 n = IntKind.u64.wrap (zag n) := by intro n; simp [fixN]
  rw [e1] at w1
  simp only [er, gvD, Int.cast_ofNat_Int] at g lt flo ⊢
  generalize gvF b a 10 0 0 = r at *
  obtain ⟨n, t, e⟩ := r
  simp only [numO, ef] at g lt flo ⊢
  clear er ef
  have zg := zagZig_spec n lt
  have mm := may_spec 0 0 7 (IntKind.u64.wrap (zag n)) [] [] flo.1 flo.2 (by simp) (by omega)
  rw [mayE_num (by decide)] at mm
  simp only [valX, bytesD_nil] at mm
  generalize hN : IntKind.u64.wrap (zag n) = N at *
  by_cases he : e = 0
  · subst he
    rw [if_neg (by simp)]
    cases hh : holdsB 7 N with
    | false =>
      simp only [hh, if_true] at mm ⊢
      simp -implicitDefEqProofs (maxSteps := 1000000) (disch := omega) only [↓Int.reduceLT, ↓Int.reduceLE, ↓Int.reduceEq, ↓Nat.reduceEqDiff, Nat.reduceBEq, ↓reduceIte, St.toRS, restrict, initEnv, plainArgs, reduceCtorEq, Nat.reduceEqDiff, Nat.reduceAdd, Nat.reduceMul, Int.reduceLT, Int.reduceLE, Int.reduceEq, Int.reduceNeg, Int.reduceAdd, Int.reduceToNat, Int.reduceNe, Nat.reduceSub, Int.reducePow, Int.reduceMul, vb0, vb1, vb2, vb3, vb4, vb5, vb6, vb7, f_scalar_Get, g, w1, w2, wireI, zeroV, zg, sub, fill, setAt, List.set_cons_zero, List.set_cons_succ, List.getElem?_cons_zero, List.getElem?_cons_succ, List.drop_zero, List.take_succ_cons, List.take_zero, hN, mm]
    | true =>
      simp only [hh, Bool.true_eq_false, if_false] at mm ⊢
      simp -implicitDefEqProofs (maxSteps := 1000000) (disch := omega) only [↓Int.reduceLT, ↓Int.reduceLE, ↓Int.reduceEq, ↓Nat.reduceEqDiff, Nat.reduceBEq, ↓reduceIte, St.toRS, restrict, initEnv, plainArgs, reduceCtorEq, Nat.reduceEqDiff, Nat.reduceAdd, Nat.reduceMul, Int.reduceLT, Int.reduceLE, Int.reduceEq, Int.reduceNeg, Int.reduceAdd, Int.reduceToNat, Int.reduceNe, Nat.reduceSub, Int.reducePow, Int.reduceMul, vb0, vb1, vb2, vb3, vb4, vb5, vb6, vb7, f_scalar_Get, g, w1, w2, wireI, zeroV, zg, sub, fill, setAt, List.set_cons_zero, List.set_cons_succ, List.getElem?_cons_zero, List.getElem?_cons_succ, List.drop_zero, List.take_succ_cons, List.take_zero, hN, mm]
  · rw [if_pos he]
    clear mm
    simp -implicitDefEqProofs (maxSteps := 1000000) (disch := omega) only [↓Int.reduceLT, ↓Int.reduceLE, ↓Int.reduceEq, ↓Nat.reduceEqDiff, Nat.reduceBEq, ↓reduceIte, St.toRS, restrict, initEnv, plainArgs, reduceCtorEq, Nat.reduceEqDiff, Nat.reduceAdd, Nat.reduceMul, Int.reduceLT, Int.reduceLE, Int.reduceEq, Int.reduceNeg, Int.reduceAdd, Int.reduceToNat, Int.reduceNe, Nat.reduceSub, Int.reducePow, Int.reduceMul, vb0, vb1, vb2, vb3, vb4, vb5, vb6, vb7, f_scalar_Get, g, w1, w2, wireI, zeroV, zg, sub, fill, setAt, List.set_cons_zero, List.set_cons_succ, List.getElem?_cons_zero, List.getElem?_cons_succ, List.drop_zero, List.take_succ_cons, List.take_zero, hN]
theorem get_8 (b : List UInt8) (a : Nat) (hb : b.length ≤ 2097152) (ha : a ≤ b.length) : C M 9 [.d (.int .i64 8), .d (.slice 1 (bytesD b)), .d (.int .i64 a)] = some (numO 8 (rawN 8 b a)) := by
  rw [c_fn (sf := f_scalar_Get) rfl rfl ⟨rfl, rfl⟩]
  have g := getFix32_spec b a hb ha
  have w1 := known_spec 8
  have w2 := wire_spec 8
  have e1 : knownB 8 = true := by decide
  have er : rawN 8 b a = rdP b a 4 := by simp [rawN, wireI]
  have lt := raw_lt 8 b a
  have flo := fixN_lo 8 (rawN 8 b a).1 lt
  have ef : ∀ n : Nat, fixN 8 n = n := by intro n; simp [fixN]
  rw [e1] at w1
  simp only [er, gvD, Int.cast_ofNat_Int] at g lt flo ⊢
  generalize rdP b a 4 = r at *
  obtain ⟨n, t, e⟩ := r
  simp only [numO, ef] at g lt flo ⊢
  clear er ef
  have mm := may_spec 0 0 8 (n) [] [] flo.1 flo.2 (by simp) (by omega)
  rw [mayE_num (by decide)] at mm
  simp only [valX, bytesD_nil] at mm
  by_cases he : e = 0
  · subst he
    rw [if_neg (by simp)]
    cases hh : holdsB 8 n with
    | false =>
      simp only [hh, if_true] at mm ⊢
      simp -implicitDefEqProofs (maxSteps := 1000000) (disch := omega) only [↓Int.reduceLT, ↓Int.reduceLE, ↓Int.reduceEq, ↓Nat.reduceEqDiff, Nat.reduceBEq, ↓reduceIte, St.toRS, restrict, initEnv, plainArgs, reduceCtorEq, Nat.reduceEqDiff, Nat.reduceAdd, Nat.reduceMul, Int.reduceLT, Int.reduceLE, Int.reduceEq, Int.reduceNeg, Int.reduceAdd, Int.reduceToNat, Int.reduceNe, Nat.reduceSub, Int.reducePow, Int.reduceMul, vb0, vb1, vb2, vb3, vb4, vb5, vb6, vb7, f_scalar_Get, g, w1, w2, wireI, zeroV, sub, fill, setAt, List.set_cons_zero, List.set_cons_succ, List.getElem?_cons_zero, List.getElem?_cons_succ, List.drop_zero, List.take_succ_cons, List.take_zero, mm]
    | true =>
      simp only [hh, Bool.true_eq_false, if_false] at mm ⊢
      simp -implicitDefEqProofs (maxSteps := 1000000) (disch := omega) only [↓Int.reduceLT, ↓Int.reduceLE, ↓Int.reduceEq, ↓Nat.reduceEqDiff, Nat.reduceBEq, ↓reduceIte, St.toRS, restrict, initEnv, plainArgs, reduceCtorEq, Nat.reduceEqDiff, Nat.reduceAdd, Nat.reduceMul, Int.reduceLT, Int.reduceLE, Int.reduceEq, Int.reduceNeg, Int.reduceAdd, Int.reduceToNat, Int.reduceNe, Nat.reduceSub, Int.reducePow, Int.reduceMul, vb0, vb1, vb2, vb3, vb4, vb5, vb6, vb7, f_scalar_Get, g, w1, w2, wireI, zeroV, sub, fill, setAt, List.set_cons_zero, List.set_cons_succ, List.getElem?_cons_zero, List.getElem?_cons_succ, List.drop_zero, List.take_succ_cons, List.take_zero, mm]
  · rw [if_pos he]
    clear mm
    simp -implicitDefEqProofs (maxSteps := 1000000) (disch := omega) only [↓Int.reduceLT, ↓Int.reduceLE, ↓Int.reduceEq, ↓Nat.reduceEqDiff, Nat.reduceBEq, ↓reduceIte, St.toRS, restrict, initEnv, plainArgs, reduceCtorEq, Nat.reduceEqDiff, Nat.reduceAdd, Nat.reduceMul, Int.reduceLT, Int.reduceLE, Int.reduceEq, Int.reduceNeg, Int.reduceAdd, Int.reduceToNat, Int.reduceNe, Nat.reduceSub, Int.reducePow, Int.reduceMul, vb0, vb1, vb2, vb3, vb4, vb5, vb6, vb7, f_scalar_Get, g, w1, w2, wireI, zeroV, sub, fill, setAt, List.set_cons_zero, List.set_cons_succ, List.getElem?_cons_zero, List.getElem?_cons_succ, List.drop_zero, List.take_succ_cons, List.take_zero]
theorem get_9 (b : List UInt8) (a : Nat) (hb : b.length ≤ 2097152) (ha : a ≤ b.length) : C M 9 [.d (.int .i64 9), .d (.slice 1 (bytesD b)), .d (.int .i64 a)] = some (numO 9 (rawN 9 b a)) := by
  rw [c_fn (sf := f_scalar_Get) rfl rfl ⟨rfl, rfl⟩]
  have g := getFix64_spec b a hb ha
  have w1 := known_spec 9
  have w2 := wire_spec 9
  have e1 : knownB 9 = true := by decide
  have er : rawN 9 b a = rdP b a 8 := by simp [rawN, wireI]
  have lt := raw_lt 9 b a
  have flo := fixN_lo 9 (rawN 9 b a).1 lt
  have ef : ∀ n : Nat, fixN 9 n = n := by intro n; simp [fixN]
  rw [e1] at w1
  simp only [er, gvD, Int.cast_ofNat_Int] at g lt flo ⊢
  generalize rdP b a 8 = r at *
  obtain ⟨n, t, e⟩ := r
  simp only [numO, ef] at g lt flo ⊢
  clear er ef
  have mm := may_spec 0 0 9 (n) [] [] flo.1 flo.2 (by simp) (by omega)
  rw [mayE_num (by decide)] at mm
  simp only [valX, bytesD_nil] at mm
  by_cases he : e = 0
  · subst he
    rw [if_neg (by simp)]
    cases hh : holdsB 9 n with
    | false =>
      simp only [hh, if_true] at mm ⊢
      simp -implicitDefEqProofs (maxSteps := 1000000) (disch := omega) only [↓Int.reduceLT, ↓Int.reduceLE, ↓Int.reduceEq, ↓Nat.reduceEqDiff, Nat.reduceBEq, ↓reduceIte, St.toRS, restrict, initEnv, plainArgs, reduceCtorEq, Nat.reduceEqDiff, Nat.reduceAdd, Nat.reduceMul, Int.reduceLT, Int.reduceLE, Int.reduceEq, Int.reduceNeg, Int.reduceAdd, Int.reduceToNat, Int.reduceNe, Nat.reduceSub, Int.reducePow, Int.reduceMul, vb0, vb1, vb2, vb3, vb4, vb5, vb6, vb7, f_scalar_Get, g, w1, w2, wireI, zeroV, sub, fill, setAt, List.set_cons_zero, List.set_cons_succ, List.getElem?_cons_zero, List.getElem?_cons_succ, List.drop_zero, List.take_succ_cons, List.take_zero, mm]
    | true =>
      simp only [hh, Bool.true_eq_false, if_false] at mm ⊢
      simp -implicitDefEqProofs (maxSteps := 1000000) (disch := omega) only [↓Int.reduceLT, ↓Int.reduceLE, ↓Int.reduceEq, ↓Nat.reduceEqDiff, Nat.reduceBEq, ↓reduceIte, St.toRS, restrict, initEnv, plainArgs, reduceCtorEq, Nat.reduceEqDiff, Nat.reduceAdd, Nat.reduceMul, Int.reduceLT, Int.reduceLE, Int.reduceEq, Int.reduceNeg, Int.reduceAdd, Int.reduceToNat, Int.reduceNe, Nat.reduceSub, Int.reducePow, Int.reduceMul, vb0, vb1, vb2, vb3, vb4, vb5, vb6, vb7, f_scalar_Get, g, w1, w2, wireI, zeroV, sub, fill, setAt, List.set_cons_zero, List.set_cons_succ, List.getElem?_cons_zero, List.getElem?_cons_succ, List.drop_zero, List.take_succ_cons, List.take_zero, mm]
  · rw [if_pos he]
    clear mm
    simp -implicitDefEqProofs (maxSteps := 1000000) (disch := omega) only [↓Int.reduceLT, ↓Int.reduceLE, ↓Int.reduceEq, ↓Nat.reduceEqDiff, Nat.reduceBEq, ↓reduceIte, St.toRS, restrict, initEnv, plainArgs, reduceCtorEq, Nat.reduceEqDiff, Nat.reduceAdd, Nat.reduceMul, Int.reduceLT, Int.reduceLE, Int.reduceEq, Int.reduceNeg, Int.reduceAdd, Int.reduceToNat, Int.reduceNe, Nat.reduceSub, Int.reducePow, Int.reduceMul, vb0, vb1, vb2, vb3, vb4, vb5, vb6, vb7, f_scalar_Get, g, w1, w2, wireI, zeroV, sub, fill, setAt, List.set_cons_zero, List.set_cons_succ, List.getElem?_cons_zero, List.getElem?_cons_succ, List.drop_zero, List.take_succ_cons, List.take_zero]
theorem get_10 (b : List UInt8) (a : Nat) (hb : b.length ≤ 2097152) (ha : a ≤ b.length) : C M 9 [.d (.int .i64 10), .d (.slice 1 (bytesD b)), .d (.int .i64 a)] = some (numO 10 (rawN 10 b a)) := by
  rw [c_fn (sf := f_scalar_Get) rfl rfl ⟨rfl, rfl⟩]
  have g := getFix32_spec b a hb ha
  have w1 := known_spec 10
  have w2 := wire_spec 10
  have e1 : knownB 10 = true := by decide
  have er : rawN 10 b a = rdP b a 4 := by simp [rawN, wireI]
  have lt := raw_lt 10 b a
  have flo := fixN_lo 10 (rawN 10 b a).1 lt
  have ef : ∀ n : Nat, fixN 10 n = IntKind.u64.wrap (IntKind.i32.wrap n) := by intro n; simp [fixN]
  rw [e1] at w1
  simp only [er, gvD, Int.cast_ofNat_Int] at g lt flo ⊢
  generalize rdP b a 4 = r at *
  obtain ⟨n, t, e⟩ := r
  simp only [numO, ef] at g lt flo ⊢
  clear er ef
  have i32 := wrap_i32_lo (n : Int)
  have mm := may_spec 0 0 10 (IntKind.u64.wrap (IntKind.i32.wrap n)) [] [] flo.1 flo.2 (by simp) (by omega)
  rw [mayE_num (by decide)] at mm
  simp only [valX, bytesD_nil] at mm
  generalize hN : IntKind.u64.wrap (IntKind.i32.wrap n) = N at *
  by_cases he : e = 0
  · subst he
    rw [if_neg (by simp)]
    cases hh : holdsB 10 N with
    | false =>
      simp only [hh, if_true] at mm ⊢
      simp -implicitDefEqProofs (maxSteps := 1000000) (disch := omega) only [↓Int.reduceLT, ↓Int.reduceLE, ↓Int.reduceEq, ↓Nat.reduceEqDiff, Nat.reduceBEq, ↓reduceIte, St.toRS, restrict, initEnv, plainArgs, reduceCtorEq, Nat.reduceEqDiff, Nat.reduceAdd, Nat.reduceMul, Int.reduceLT, Int.reduceLE, Int.reduceEq, Int.reduceNeg, Int.reduceAdd, Int.reduceToNat, Int.reduceNe, Nat.reduceSub, Int.reducePow, Int.reduceMul, vb0, vb1, vb2, vb3, vb4, vb5, vb6, vb7, f_scalar_Get, g, w1, w2, wireI, zeroV, sub, fill, setAt, List.set_cons_zero, List.set_cons_succ, List.getElem?_cons_zero, List.getElem?_cons_succ, List.drop_zero, List.take_succ_cons, List.take_zero, hN, mm]
    | true =>
      simp only [hh, Bool.true_eq_false, if_false] at mm ⊢
      simp -implicitDefEqProofs (maxSteps := 1000000) (disch := omega) only [↓Int.reduceLT, ↓Int.reduceLE, ↓Int.reduceEq, ↓Nat.reduceEqDiff, Nat.reduceBEq, ↓reduceIte, St.toRS, restrict, initEnv, plainArgs, reduceCtorEq, Nat.reduceEqDiff, Nat.reduceAdd, Nat.reduceMul, Int.reduceLT, Int.reduceLE, Int.reduceEq, Int.reduceNeg, Int.reduceAdd, Int.reduceToNat, Int.reduceNe, Nat.reduceSub, Int.reducePow, Int.reduceMul, vb0, vb1, vb2, vb3, vb4, vb5, vb6, vb7, f_scalar_Get, g, w1, w2, wireI, zeroV, sub, fill, setAt, List.set_cons_zero, List.set_cons_succ, List.getElem?_cons_zero, List.getElem?_cons_succ, List.drop_zero, List.take_succ_cons, List.take_zero, hN, mm]
  · rw [if_pos he]
    clear mm
    simp -implicitDefEqProofs (maxSteps := 1000000) (disch := omega) only [↓Int.reduceLT, ↓Int.reduceLE, ↓Int.reduceEq, ↓Nat.reduceEqDiff, Nat.reduceBEq, ↓reduceIte, St.toRS, restrict, initEnv, plainArgs, reduceCtorEq, Nat.reduceEqDiff, Nat.reduceAdd, Nat.reduceMul, Int.reduceLT, Int.reduceLE, Int.reduceEq, Int.reduceNeg, Int.reduceAdd, Int.reduceToNat, Int.reduceNe, Nat.reduceSub, Int.reducePow, Int.reduceMul, vb0, vb1, vb2, vb3, vb4, vb5, vb6, vb7, f_scalar_Get, g, w1, w2, wireI, zeroV, sub, fill, setAt, List.set_cons_zero, List.set_cons_succ, List.getElem?_cons_zero, List.getElem?_cons_succ, List.drop_zero, List.take_succ_cons, List.take_zero, hN]
theorem get_11 (b : List UInt8) (a : Nat) (hb : b.length ≤ 2097152) (ha : a ≤ b.length) : C M 9 [.d (.int .i64 11), .d (.slice 1 (bytesD b)), .d (.int .i64 a)] = some (numO 11 (rawN 11 b a)) := by
  rw [c_fn (sf := f_scalar_Get) rfl rfl ⟨rfl, rfl⟩]
  have g := getFix64_spec b a hb ha
  have w1 := known_spec 11
  have w2 := wire_spec 11
  have e1 : knownB 11 = true := by decide
  have er : rawN 11 b a = rdP b a 8 := by simp [rawN, wireI]
  have lt := raw_lt 11 b a
  have flo := fixN_lo 11 (rawN 11 b a).1 lt
  have ef : ∀ n : Nat, fixN 11 n = n := by intro n; simp [fixN]
  rw [e1] at w1
  simp only [er, gvD, Int.cast_ofNat_Int] at g lt flo ⊢
  generalize rdP b a 8 = r at *
  obtain ⟨n, t, e⟩ := r
  simp only [numO, ef] at g lt flo ⊢
  clear er ef
  have mm := may_spec 0 0 11 (n) [] [] flo.1 flo.2 (by simp) (by omega)
  rw [mayE_num (by decide)] at mm
  simp only [valX, bytesD_nil] at mm
  by_cases he : e = 0
  · subst he
    rw [if_neg (by simp)]
    cases hh : holdsB 11 n with
    | false =>
      simp only [hh, if_true] at mm ⊢
      simp -implicitDefEqProofs (maxSteps := 1000000) (disch := omega) only [↓Int.reduceLT, ↓Int.reduceLE, ↓Int.reduceEq, ↓Nat.reduceEqDiff, Nat.reduceBEq, ↓reduceIte, St.toRS, restrict, initEnv, plainArgs, reduceCtorEq, Nat.reduceEqDiff, Nat.reduceAdd, Nat.reduceMul, Int.reduceLT, Int.reduceLE, Int.reduceEq, Int.reduceNeg, Int.reduceAdd, Int.reduceToNat, Int.reduceNe, Nat.reduceSub, Int.reducePow, Int.reduceMul, vb0, vb1, vb2, vb3, vb4, vb5, vb6, vb7, f_scalar_Get, g, w1, w2, wireI, zeroV, sub, fill, setAt, List.set_cons_zero, List.set_cons_succ, List.getElem?_cons_zero, List.getElem?_cons_succ, List.drop_zero, List.take_succ_cons, List.take_zero, mm]
    | true =>
      simp only [hh, Bool.true_eq_false, if_false] at mm ⊢
      simp -implicitDefEqProofs (maxSteps := 1000000) (disch := omega) only [↓Int.reduceLT, ↓Int.reduceLE, ↓Int.reduceEq, ↓Nat.reduceEqDiff, Nat.reduceBEq, ↓reduceIte, St.toRS, restrict, initEnv, plainArgs, reduceCtorEq, Nat.reduceEqDiff, Nat.reduceAdd, Nat.reduceMul, Int.reduceLT, Int.reduceLE, Int.reduceEq, Int.reduceNeg, Int.reduceAdd, Int.reduceToNat, Int.reduceNe, Nat.reduceSub, Int.reducePow, Int.reduceMul, vb0, vb1, vb2, vb3, vb4, vb5, vb6, vb7, f_scalar_Get, g, w1, w2, wireI, zeroV, sub, fill, setAt, List.set_cons_zero, List.set_cons_succ, List.getElem?_cons_zero, List.getElem?_cons_succ, List.drop_zero, List.take_succ_cons, List.take_zero, mm]
  · rw [if_pos he]
    clear mm
    simp -implicitDefEqProofs (maxSteps := 1000000) (disch := omega) only [↓Int.reduceLT, ↓Int.reduceLE, ↓Int.reduceEq, ↓Nat.reduceEqDiff, Nat.reduceBEq, ↓reduceIte, St.toRS, restrict, initEnv, plainArgs, reduceCtorEq, Nat.reduceEqDiff, Nat.reduceAdd, Nat.reduceMul, Int.reduceLT, Int.reduceLE, Int.reduceEq, Int.reduceNeg, Int.reduceAdd, Int.reduceToNat, Int.reduceNe, Nat.reduceSub, Int.reducePow, Int.reduceMul, vb0, vb1, vb2, vb3, vb4, vb5, vb6, vb7, f_scalar_Get, g, w1, w2, wireI, zeroV, sub, fill, setAt, List.set_cons_zero, List.set_cons_succ, List.getElem?_cons_zero, List.getElem?_cons_succ, List.drop_zero, List.take_succ_cons, List.take_zero]
theorem get_12 (b : List UInt8) (a : Nat) (hb : b.length ≤ 2097152) (ha : a ≤ b.length) : C M 9 [.d (.int .i64 12), .d (.slice 1 (bytesD b)), .d (.int .i64 a)] = some (numO 12 (rawN 12 b a)) := by
  rw [c_fn (sf := f_scalar_Get) rfl rfl ⟨rfl, rfl⟩]
  have g := getFix32_spec b a hb ha
  have w1 := known_spec 12
  have w2 := wire_spec 12
  have e1 : knownB 12 = true := by decide
  have er : rawN 12 b a = rdP b a 4 := by simp [rawN, wireI]
  have lt := raw_lt 12 b a
  have flo := fixN_lo 12 (rawN 12 b a).1 lt
  have ef : ∀ n : Nat, fixN 12 n = n := by intro n; simp [fixN]
  rw [e1] at w1
  simp only [er, gvD, Int.cast_ofNat_Int] at g lt flo ⊢
  generalize rdP b a 4 = r at *
  obtain ⟨n, t, e⟩ := r
  simp only [numO, ef] at g lt flo ⊢
  clear er ef
  have mm := may_spec 0 0 12 (n) [] [] flo.1 flo.2 (by simp) (by omega)
  rw [mayE_num (by decide)] at mm
  simp only [valX, bytesD_nil] at mm
  by_cases he : e = 0
  · subst he
    rw [if_neg (by simp)]
    cases hh : holdsB 12 n with
    | false =>
      simp only [hh, if_true] at mm ⊢
      simp -implicitDefEqProofs (maxSteps := 1000000) (disch := omega) only [↓Int.reduceLT, ↓Int.reduceLE, ↓Int.reduceEq, ↓Nat.reduceEqDiff, Nat.reduceBEq, ↓reduceIte, St.toRS, restrict, initEnv, plainArgs, reduceCtorEq, Nat.reduceEqDiff, Nat.reduceAdd, Nat.reduceMul, Int.reduceLT, Int.reduceLE, Int.reduceEq, Int.reduceNeg, Int.reduceAdd, Int.reduceToNat, Int.reduceNe, Nat.reduceSub, Int.reducePow, Int.reduceMul, vb0, vb1, vb2, vb3, vb4, vb5, vb6, vb7, f_scalar_Get, g, w1, w2, wireI, zeroV, sub, fill, setAt, List.set_cons_zero, List.set_cons_succ, List.getElem?_cons_zero, List.getElem?_cons_succ, List.drop_zero, List.take_succ_cons, List.take_zero, mm]
    | true =>
      simp only [hh, Bool.true_eq_false, if_false] at mm ⊢
      simp -implicitDefEqProofs (maxSteps := 1000000) (disch := omega) only [↓Int.reduceLT, ↓Int.reduceLE, ↓Int.reduceEq, ↓Nat.reduceEqDiff, Nat.reduceBEq, ↓reduceIte, St.toRS, restrict, initEnv, plainArgs, reduceCtorEq, Nat.reduceEqDiff, Nat.reduceAdd, Nat.reduceMul, Int.reduceLT, Int.reduceLE, Int.reduceEq, Int.reduceNeg, Int.reduceAdd, Int.reduceToNat, Int.reduceNe, Nat.reduceSub, Int.reducePow, Int.reduceMul, vb0, vb1, vb2, vb3, vb4, vb5, vb6, vb7, f_scalar_Get, g, w1, w2, wireI, zeroV, sub, fill, setAt, List.set_cons_zero, List.set_cons_succ, List.getElem?_cons_zero, List.getElem?_cons_succ, List.drop_zero, List.take_succ_cons, List.take_zero, mm]
  · rw [if_pos he]
    clear mm
    simp -implicitDefEqProofs (maxSteps := 1000000) (disch := omega) only [↓Int.reduceLT, ↓Int.reduceLE, ↓Int.reduceEq, ↓Nat.reduceEqDiff, Nat.reduceBEq, ↓reduceIte, St.toRS, restrict, initEnv, plainArgs, reduceCtorEq, Nat.reduceEqDiff, Nat.reduceAdd, Nat.reduceMul, Int.reduceLT, Int.reduceLE, Int.reduceEq, Int.reduceNeg, Int.reduceAdd, Int.reduceToNat, Int.reduceNe, Nat.reduceSub, Int.reducePow, Int.reduceMul, vb0, vb1, vb2, vb3, vb4, vb5, vb6, vb7, f_scalar_Get, g, w1, w2, wireI, zeroV, sub, fill, setAt, List.set_cons_zero, List.set_cons_succ, List.getElem?_cons_zero, List.getElem?_cons_succ, List.drop_zero, List.take_succ_cons, List.take_zero]
theorem get_13 (b : List UInt8) (a : Nat) (hb : b.length ≤ 2097152) (ha : a ≤ b.length) : C M 9 [.d (.int .i64 13), .d (.slice 1 (bytesD b)), .d (.int .i64 a)] = some (numO 13 (rawN 13 b a)) := by
  rw [c_fn (sf := f_scalar_Get) rfl rfl ⟨rfl, rfl⟩]
  have g := getFix64_spec b a hb ha
  have w1 := known_spec 13
  have w2 := wire_spec 13
  have e1 : knownB 13 = true := by decide
  have er : rawN 13 b a = rdP b a 8 := by simp [rawN, wireI]
  have lt := raw_lt 13 b a
  have flo := fixN_lo 13 (rawN 13 b a).1 lt
  have ef : ∀ n : Nat, fixN 13 n = n := by intro n; simp [fixN]
  rw [e1] at w1
  simp only [er, gvD, Int.cast_ofNat_Int] at g lt flo ⊢
  generalize rdP b a 8 = r at *
  obtain ⟨n, t, e⟩ := r
  simp only [numO, ef] at g lt flo ⊢
  clear er ef
  have mm := may_spec 0 0 13 (n) [] [] flo.1 flo.2 (by simp) (by omega)
  rw [mayE_num (by decide)] at mm
  simp only [valX, bytesD_nil] at mm
  by_cases he : e = 0
  · subst he
    rw [if_neg (by simp)]
    cases hh : holdsB 13 n with
    | false =>
      simp only [hh, if_true] at mm ⊢
      simp -implicitDefEqProofs (maxSteps := 1000000) (disch := omega) only [↓Int.reduceLT, ↓Int.reduceLE, ↓Int.reduceEq, ↓Nat.reduceEqDiff, Nat.reduceBEq, ↓reduceIte, St.toRS, restrict, initEnv, plainArgs, reduceCtorEq, Nat.reduceEqDiff, Nat.reduceAdd, Nat.reduceMul, Int.reduceLT, Int.reduceLE, Int.reduceEq, Int.reduceNeg, Int.reduceAdd, Int.reduceToNat, Int.reduceNe, Nat.reduceSub, Int.reducePow, Int.reduceMul, vb0, vb1, vb2, vb3, vb4, vb5, vb6, vb7, f_scalar_Get, g, w1, w2, wireI, zeroV, sub, fill, setAt, List.set_cons_zero, List.set_cons_succ, List.getElem?_cons_zero, List.getElem?_cons_succ, List.drop_zero, List.take_succ_cons, List.take_zero, mm]
    | true =>
      simp only [hh, Bool.true_eq_false, if_false] at mm ⊢
      simp -implicitDefEqProofs (maxSteps := 1000000) (disch := omega) only [↓Int.reduceLT, ↓Int.reduceLE, ↓Int.reduceEq, ↓Nat.reduceEqDiff, Nat.reduceBEq, ↓reduceIte, St.toRS, restrict, initEnv, plainArgs, reduceCtorEq, Nat.reduceEqDiff, Nat.reduceAdd, Nat.reduceMul, Int.reduceLT, Int.reduceLE, Int.reduceEq, Int.reduceNeg, Int.reduceAdd, Int.reduceToNat, Int.reduceNe, Nat.reduceSub, Int.reducePow, Int.reduceMul, vb0, vb1, vb2, vb3, vb4, vb5, vb6, vb7, f_scalar_Get, g, w1, w2, wireI, zeroV, sub, fill, setAt, List.set_cons_zero, List.set_cons_succ, List.getElem?_cons_zero, List.getElem?_cons_succ, List.drop_zero, List.take_succ_cons, List.take_zero, mm]
  · rw [if_pos he]
    clear mm
    simp -implicitDefEqProofs (maxSteps := 1000000) (disch := omega) only [↓Int.reduceLT, ↓Int.reduceLE, ↓Int.reduceEq, ↓Nat.reduceEqDiff, Nat.reduceBEq, ↓reduceIte, St.toRS, restrict, initEnv, plainArgs, reduceCtorEq, Nat.reduceEqDiff, Nat.reduceAdd, Nat.reduceMul, Int.reduceLT, Int.reduceLE, Int.reduceEq, Int.reduceNeg, Int.reduceAdd, Int.reduceToNat, Int.reduceNe, Nat.reduceSub, Int.reducePow, Int.reduceMul, vb0, vb1, vb2, vb3, vb4, vb5, vb6, vb7, f_scalar_Get, g, w1, w2, wireI, zeroV, sub, fill, setAt, List.set_cons_zero, List.set_cons_succ, List.getElem?_cons_zero, List.getElem?_cons_succ, List.drop_zero, List.take_succ_cons, List.take_zero]
theorem get_16 (b : List UInt8) (a : Nat) (hb : b.length ≤ 2097152) (ha : a ≤ b.length) : C M 9 [.d (.int .i64 16), .d (.slice 1 (bytesD b)), .d (.int .i64 a)] = some (numO 16 (rawN 16 b a)) := by
  rw [c_fn (sf := f_scalar_Get) rfl rfl ⟨rfl, rfl⟩]
  have g := getVarint_spec b a hb ha
  have w1 := known_spec 16
  have w2 := wire_spec 16
  have e1 : knownB 16 = true := by decide
  have er : rawN 16 b a = gvF b a 10 0 0 := by simp [rawN, wireI]
  have lt := raw_lt 16 b a
  have flo := fixN_lo 16 (rawN 16 b a).1 lt
  have ef : ∀ n : Nat, fixN 16 n = n := by intro n; simp [fixN]
  rw [e1] at w1
  simp only [er, gvD, Int.cast_ofNat_Int] at g lt flo ⊢
  generalize gvF b a 10 0 0 = r at *
  obtain ⟨n, t, e⟩ := r
  simp only [numO, ef] at g lt flo ⊢
  clear er ef
  have mm := may_spec 0 0 16 (n) [] [] flo.1 flo.2 (by simp) (by omega)
  rw [mayE_num (by decide)] at mm
  simp only [valX, bytesD_nil] at mm
  by_cases he : e = 0
  · subst he
    rw [if_neg (by simp)]
    cases hh : holdsB 16 n with
    | false =>
      simp only [hh, if_true] at mm ⊢
      simp -implicitDefEqProofs (maxSteps := 1000000) (disch := omega) only [↓Int.reduceLT, ↓Int.reduceLE, ↓Int.reduceEq, ↓Nat.reduceEqDiff, Nat.reduceBEq, ↓reduceIte, St.toRS, restrict, initEnv, plainArgs, reduceCtorEq, Nat.reduceEqDiff, Nat.reduceAdd, Nat.reduceMul, Int.reduceLT, Int.reduceLE, Int.reduceEq, Int.reduceNeg, Int.reduceAdd, Int.reduceToNat, Int.reduceNe, Nat.reduceSub, Int.reducePow, Int.reduceMul, vb0, vb1, vb2, vb3, vb4, vb5, vb6, vb7, f_scalar_Get, g, w1, w2, wireI, zeroV, sub, fill, setAt, List.set_cons_zero, List.set_cons_succ, List.getElem?_cons_zero, List.getElem?_cons_succ, List.drop_zero, List.take_succ_cons, List.take_zero, mm]
    | true =>
      simp only [hh, Bool.true_eq_false, if_false] at mm ⊢
      simp -implicitDefEqProofs (maxSteps := 1000000) (disch := omega) only [↓Int.reduceLT, ↓Int.reduceLE, ↓Int.reduceEq, ↓Nat.reduceEqDiff, Nat.reduceBEq, ↓reduceIte, St.toRS, restrict, initEnv, plainArgs, reduceCtorEq, Nat.reduceEqDiff, Nat.reduceAdd, Nat.reduceMul, Int.reduceLT, Int.reduceLE, Int.reduceEq, Int.reduceNeg, Int.reduceAdd, Int.reduceToNat, Int.reduceNe, Nat.reduceSub, Int.reducePow, Int.reduceMul, vb0, vb1, vb2, vb3, vb4, vb5, vb6, vb7, f_scalar_Get, g, w1, w2, wireI, zeroV, sub, fill, setAt, List.set_cons_zero, List.set_cons_succ, List.getElem?_cons_zero, List.getElem?_cons_succ, List.drop_zero, List.take_succ_cons, List.take_zero, mm]
  · rw [if_pos he]
    clear mm
    simp -implicitDefEqProofs (maxSteps := 1000000) (disch := omega) only [↓Int.reduceLT, ↓Int.reduceLE, ↓Int.reduceEq, ↓Nat.reduceEqDiff, Nat.reduceBEq, ↓reduceIte, St.toRS, restrict, initEnv, plainArgs, reduceCtorEq, Nat.reduceEqDiff, Nat.reduceAdd, Nat.reduceMul, Int.reduceLT, Int.reduceLE, Int.reduceEq, Int.reduceNeg, Int.reduceAdd, Int.reduceToNat, Int.reduceNe, Nat.reduceSub, Int.reducePow, Int.reduceMul, vb0, vb1, vb2, vb3, vb4, vb5, vb6, vb7, f_scalar_Get, g, w1, w2, wireI, zeroV, sub, fill, setAt, List.set_cons_zero, List.set_cons_succ, List.getElem?_cons_zero, List.getElem?_cons_succ, List.drop_zero, List.take_succ_cons, List.take_zero]
end Go.Proofs.YtedncpnkbpbchaaGreatDoor
