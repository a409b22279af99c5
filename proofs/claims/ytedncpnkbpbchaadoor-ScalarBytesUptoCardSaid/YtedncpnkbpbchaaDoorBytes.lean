/-
  The law ScalarBytes, over data.
-/
import Derived.Test.YtedncpnkbpbchaaDoorGet
set_option linter.unusedVariables false
set_option linter.unusedSimpArgs false
set_option maxRecDepth 100000
set_option maxHeartbeats 16000000
namespace Go.Proofs.YtedncpnkbpbchaaDoor
open Go.Vi

theorem ckP_len (b : List UInt8) (a : Nat) : (ckP b a).1.length ≤ b.length := by
  simp only [ckP]
  split
  · simp
  · split
    · simp
    · simp; omega
def ckO (k : Int) (r : List UInt8 × Nat × Nat) : V :=
  if r.2.2 ≠ 0 then .tup [zeroV, .int .i64 0, .int .i64 r.2.2]
  else if k = 14 ∧ txtB r.1 = false then .tup [zeroV, .int .i64 0, .int .i64 8] else .tup [.agg [.int .u64 0, .slice 1 (bytesD r.1), .slice 0 []], .int .i64 r.2.1, .int .i64 0]

theorem get_14 (b : List UInt8) (a : Nat) (hb : b.length ≤ 1048576) (ha : a ≤ b.length) : C (M false) 8 [.d (.int .i64 14), .d (.slice 1 (bytesD b)), .d (.int .i64 a)] = some (ckO 14 (ckP b a)) := by
  rw [c_fn (sf := f_scalar_Get) rfl rfl ⟨rfl, rfl⟩]
  have g := getChunk_spec (q := false) b a hb ha
  have w1 := known_spec (q := false) 14
  have w2 := wire_spec (q := false) 14
  have e1 : knownB 14 = true := by decide
  have lt := ckP_len b a
  rw [e1] at w1
  simp only [ckD] at g
  generalize ckP b a = r at *
  obtain ⟨c, t, e⟩ := r
  simp only [ckO] at g lt ⊢
  have mm := may_spec 1 0 14 0 c [] (by omega) (by omega) (by omega) (fun _ => rfl)
  have hm : mayE 14 0 c [] = if txtB c = false then 8 else 0 := by
    have f : fitsB 14 0 c [] = true := by simp [fitsB, knownB, numericB]
    simp [mayE, e1, f]
  rw [hm] at mm
  simp only [valX] at mm
  clear hm
  by_cases he : e = 0
  · subst he
    rw [if_neg (by simp)]
    cases hh : txtB c with
    | false =>
      rw [if_pos ⟨trivial, rfl⟩]
      simp only [hh, if_true] at mm
      simp -implicitDefEqProofs (maxSteps := 1000000) (disch := omega) only [↓Int.reduceLT, ↓Int.reduceLE, ↓Int.reduceEq, ↓Nat.reduceEqDiff, Nat.reduceBEq, ↓reduceIte, St.toRS, restrict, initEnv, plainArgs, reduceCtorEq, Nat.reduceEqDiff, Nat.reduceAdd, Nat.reduceMul, Int.reduceLT, Int.reduceLE, Int.reduceEq, Int.reduceNeg, Int.reduceAdd, Int.reduceToNat, Int.reduceNe, Nat.reduceSub, Int.reducePow, Int.reduceMul, vb0, vb1, vb2, vb3, vb4, vb5, vb6, vb7, f_scalar_Get, g, w1, w2, wireI, zeroV, sub, fill, setAt, List.set_cons_zero, List.set_cons_succ, List.getElem?_cons_zero, List.getElem?_cons_succ, List.drop_zero, List.take_succ_cons, List.take_zero, mm]
    | true =>
      rw [if_neg (by simp)]
      simp only [hh, Bool.true_eq_false, if_false] at mm
      simp -implicitDefEqProofs (maxSteps := 1000000) (disch := omega) only [↓Int.reduceLT, ↓Int.reduceLE, ↓Int.reduceEq, ↓Nat.reduceEqDiff, Nat.reduceBEq, ↓reduceIte, St.toRS, restrict, initEnv, plainArgs, reduceCtorEq, Nat.reduceEqDiff, Nat.reduceAdd, Nat.reduceMul, Int.reduceLT, Int.reduceLE, Int.reduceEq, Int.reduceNeg, Int.reduceAdd, Int.reduceToNat, Int.reduceNe, Nat.reduceSub, Int.reducePow, Int.reduceMul, vb0, vb1, vb2, vb3, vb4, vb5, vb6, vb7, f_scalar_Get, g, w1, w2, wireI, zeroV, sub, fill, setAt, List.set_cons_zero, List.set_cons_succ, List.getElem?_cons_zero, List.getElem?_cons_succ, List.drop_zero, List.take_succ_cons, List.take_zero, mm]
  · rw [if_pos he]
    clear mm
    simp -implicitDefEqProofs (maxSteps := 1000000) (disch := omega) only [↓Int.reduceLT, ↓Int.reduceLE, ↓Int.reduceEq, ↓Nat.reduceEqDiff, Nat.reduceBEq, ↓reduceIte, St.toRS, restrict, initEnv, plainArgs, reduceCtorEq, Nat.reduceEqDiff, Nat.reduceAdd, Nat.reduceMul, Int.reduceLT, Int.reduceLE, Int.reduceEq, Int.reduceNeg, Int.reduceAdd, Int.reduceToNat, Int.reduceNe, Nat.reduceSub, Int.reducePow, Int.reduceMul, vb0, vb1, vb2, vb3, vb4, vb5, vb6, vb7, f_scalar_Get, g, w1, w2, wireI, zeroV, sub, fill, setAt, List.set_cons_zero, List.set_cons_succ, List.getElem?_cons_zero, List.getElem?_cons_succ, List.drop_zero, List.take_succ_cons, List.take_zero]
theorem get_15 (b : List UInt8) (a : Nat) (hb : b.length ≤ 1048576) (ha : a ≤ b.length) : C (M false) 8 [.d (.int .i64 15), .d (.slice 1 (bytesD b)), .d (.int .i64 a)] = some (ckO 15 (ckP b a)) := by
  rw [c_fn (sf := f_scalar_Get) rfl rfl ⟨rfl, rfl⟩]
  have g := getChunk_spec (q := false) b a hb ha
  have w1 := known_spec (q := false) 15
  have w2 := wire_spec (q := false) 15
  have e1 : knownB 15 = true := by decide
  have lt := ckP_len b a
  rw [e1] at w1
  simp only [ckD] at g
  generalize ckP b a = r at *
  obtain ⟨c, t, e⟩ := r
  simp only [ckO] at g lt ⊢
  have mm := may_spec 1 0 15 0 c [] (by omega) (by omega) (by omega) (fun _ => rfl)
  have hm : mayE 15 0 c [] = if False then 8 else 0 := by
    have f : fitsB 15 0 c [] = true := by simp [fitsB, knownB, numericB]
    simp [mayE, e1, f]
  rw [hm] at mm
  simp only [valX] at mm
  clear hm
  by_cases he : e = 0
  · subst he
    rw [if_neg (by simp), if_neg (by simp)]
    try simp only [if_false] at mm
    simp -implicitDefEqProofs (maxSteps := 1000000) (disch := omega) only [↓Int.reduceLT, ↓Int.reduceLE, ↓Int.reduceEq, ↓Nat.reduceEqDiff, Nat.reduceBEq, ↓reduceIte, St.toRS, restrict, initEnv, plainArgs, reduceCtorEq, Nat.reduceEqDiff, Nat.reduceAdd, Nat.reduceMul, Int.reduceLT, Int.reduceLE, Int.reduceEq, Int.reduceNeg, Int.reduceAdd, Int.reduceToNat, Int.reduceNe, Nat.reduceSub, Int.reducePow, Int.reduceMul, vb0, vb1, vb2, vb3, vb4, vb5, vb6, vb7, f_scalar_Get, g, w1, w2, wireI, zeroV, sub, fill, setAt, List.set_cons_zero, List.set_cons_succ, List.getElem?_cons_zero, List.getElem?_cons_succ, List.drop_zero, List.take_succ_cons, List.take_zero, mm]
  · rw [if_pos he]
    clear mm
    simp -implicitDefEqProofs (maxSteps := 1000000) (disch := omega) only [↓Int.reduceLT, ↓Int.reduceLE, ↓Int.reduceEq, ↓Nat.reduceEqDiff, Nat.reduceBEq, ↓reduceIte, St.toRS, restrict, initEnv, plainArgs, reduceCtorEq, Nat.reduceEqDiff, Nat.reduceAdd, Nat.reduceMul, Int.reduceLT, Int.reduceLE, Int.reduceEq, Int.reduceNeg, Int.reduceAdd, Int.reduceToNat, Int.reduceNe, Nat.reduceSub, Int.reducePow, Int.reduceMul, vb0, vb1, vb2, vb3, vb4, vb5, vb6, vb7, f_scalar_Get, g, w1, w2, wireI, zeroV, sub, fill, setAt, List.set_cons_zero, List.set_cons_succ, List.getElem?_cons_zero, List.getElem?_cons_succ, List.drop_zero, List.take_succ_cons, List.take_zero]
theorem rget_14 (b : List UInt8) (a : Nat) (hb : b.length ≤ 1048576) (ha : a ≤ b.length) : C (M false) 13 [.d (.int .i64 14), .d (.slice 1 (bytesD b)), .d (.int .i64 a)] = some (ckO 14 (ckP b a)) := by
  rw [c_fn (sf := f_ref3_Get) rfl rfl ⟨rfl, rfl⟩]
  have g := rgetChunk_spec (q := false) b a hb ha
  have w1 := known_spec (q := false) 14
  have w2 := rwire_spec (q := false) 14
  have e1 : knownB 14 = true := by decide
  have lt := ckP_len b a
  rw [e1] at w1
  simp only [ckD] at g
  generalize ckP b a = r at *
  obtain ⟨c, t, e⟩ := r
  simp only [ckO] at g lt ⊢
  have mm := rvalid_spec c (by omega)
  by_cases he : e = 0
  · subst he
    rw [if_neg (by simp)]
    cases hh : txtB c with
    | false =>
      rw [if_pos ⟨trivial, rfl⟩]
      simp only [hh, if_true] at mm
      simp -implicitDefEqProofs (maxSteps := 1000000) (disch := omega) only [↓Int.reduceLT, ↓Int.reduceLE, ↓Int.reduceEq, ↓Nat.reduceEqDiff, Nat.reduceBEq, ↓reduceIte, St.toRS, restrict, initEnv, plainArgs, reduceCtorEq, Nat.reduceEqDiff, Nat.reduceAdd, Nat.reduceMul, Int.reduceLT, Int.reduceLE, Int.reduceEq, Int.reduceNeg, Int.reduceAdd, Int.reduceToNat, Int.reduceNe, Nat.reduceSub, Int.reducePow, Int.reduceMul, vb0, vb1, vb2, vb3, vb4, vb5, vb6, vb7, f_ref3_Get, g, w1, w2, wireI, zeroV, sub, fill, setAt, List.set_cons_zero, List.set_cons_succ, List.getElem?_cons_zero, List.getElem?_cons_succ, List.drop_zero, List.take_succ_cons, List.take_zero, mm]
    | true =>
      rw [if_neg (by simp)]
      simp only [hh, Bool.true_eq_false, if_false] at mm
      simp -implicitDefEqProofs (maxSteps := 1000000) (disch := omega) only [↓Int.reduceLT, ↓Int.reduceLE, ↓Int.reduceEq, ↓Nat.reduceEqDiff, Nat.reduceBEq, ↓reduceIte, St.toRS, restrict, initEnv, plainArgs, reduceCtorEq, Nat.reduceEqDiff, Nat.reduceAdd, Nat.reduceMul, Int.reduceLT, Int.reduceLE, Int.reduceEq, Int.reduceNeg, Int.reduceAdd, Int.reduceToNat, Int.reduceNe, Nat.reduceSub, Int.reducePow, Int.reduceMul, vb0, vb1, vb2, vb3, vb4, vb5, vb6, vb7, f_ref3_Get, g, w1, w2, wireI, zeroV, sub, fill, setAt, List.set_cons_zero, List.set_cons_succ, List.getElem?_cons_zero, List.getElem?_cons_succ, List.drop_zero, List.take_succ_cons, List.take_zero, mm]
  · rw [if_pos he]
    clear mm
    simp -implicitDefEqProofs (maxSteps := 1000000) (disch := omega) only [↓Int.reduceLT, ↓Int.reduceLE, ↓Int.reduceEq, ↓Nat.reduceEqDiff, Nat.reduceBEq, ↓reduceIte, St.toRS, restrict, initEnv, plainArgs, reduceCtorEq, Nat.reduceEqDiff, Nat.reduceAdd, Nat.reduceMul, Int.reduceLT, Int.reduceLE, Int.reduceEq, Int.reduceNeg, Int.reduceAdd, Int.reduceToNat, Int.reduceNe, Nat.reduceSub, Int.reducePow, Int.reduceMul, vb0, vb1, vb2, vb3, vb4, vb5, vb6, vb7, f_ref3_Get, g, w1, w2, wireI, zeroV, sub, fill, setAt, List.set_cons_zero, List.set_cons_succ, List.getElem?_cons_zero, List.getElem?_cons_succ, List.drop_zero, List.take_succ_cons, List.take_zero]
theorem rget_15 (b : List UInt8) (a : Nat) (hb : b.length ≤ 1048576) (ha : a ≤ b.length) : C (M false) 13 [.d (.int .i64 15), .d (.slice 1 (bytesD b)), .d (.int .i64 a)] = some (ckO 15 (ckP b a)) := by
  rw [c_fn (sf := f_ref3_Get) rfl rfl ⟨rfl, rfl⟩]
  have g := rgetChunk_spec (q := false) b a hb ha
  have w1 := known_spec (q := false) 15
  have w2 := rwire_spec (q := false) 15
  have e1 : knownB 15 = true := by decide
  have lt := ckP_len b a
  rw [e1] at w1
  simp only [ckD] at g
  generalize ckP b a = r at *
  obtain ⟨c, t, e⟩ := r
  simp only [ckO] at g lt ⊢
  have mm := rvalid_spec c (by omega)
  by_cases he : e = 0
  · subst he
    rw [if_neg (by simp), if_neg (by simp)]
    try simp only [if_false] at mm
    simp -implicitDefEqProofs (maxSteps := 1000000) (disch := omega) only [↓Int.reduceLT, ↓Int.reduceLE, ↓Int.reduceEq, ↓Nat.reduceEqDiff, Nat.reduceBEq, ↓reduceIte, St.toRS, restrict, initEnv, plainArgs, reduceCtorEq, Nat.reduceEqDiff, Nat.reduceAdd, Nat.reduceMul, Int.reduceLT, Int.reduceLE, Int.reduceEq, Int.reduceNeg, Int.reduceAdd, Int.reduceToNat, Int.reduceNe, Nat.reduceSub, Int.reducePow, Int.reduceMul, vb0, vb1, vb2, vb3, vb4, vb5, vb6, vb7, f_ref3_Get, g, w1, w2, wireI, zeroV, sub, fill, setAt, List.set_cons_zero, List.set_cons_succ, List.getElem?_cons_zero, List.getElem?_cons_succ, List.drop_zero, List.take_succ_cons, List.take_zero, mm]
  · rw [if_pos he]
    clear mm
    simp -implicitDefEqProofs (maxSteps := 1000000) (disch := omega) only [↓Int.reduceLT, ↓Int.reduceLE, ↓Int.reduceEq, ↓Nat.reduceEqDiff, Nat.reduceBEq, ↓reduceIte, St.toRS, restrict, initEnv, plainArgs, reduceCtorEq, Nat.reduceEqDiff, Nat.reduceAdd, Nat.reduceMul, Int.reduceLT, Int.reduceLE, Int.reduceEq, Int.reduceNeg, Int.reduceAdd, Int.reduceToNat, Int.reduceNe, Nat.reduceSub, Int.reducePow, Int.reduceMul, vb0, vb1, vb2, vb3, vb4, vb5, vb6, vb7, f_ref3_Get, g, w1, w2, wireI, zeroV, sub, fill, setAt, List.set_cons_zero, List.set_cons_succ, List.getElem?_cons_zero, List.getElem?_cons_succ, List.drop_zero, List.take_succ_cons, List.take_zero]
theorem get_unknown (k a : Int) (b : List UInt8) (hk : k < 1 ∨ 16 < k) : C (M false) 8 [.d (.int .i64 k), .d (.slice 1 (bytesD b)), .d (.int .i64 a)] = some (.tup [zeroV, .int .i64 0, .int .i64 18]) := by
  rw [c_fn (sf := f_scalar_Get) rfl rfl ⟨rfl, rfl⟩]
  have w1 := known_spec (q := false) k
  have e1 : knownB k = false := by simp only [knownB, decide_eq_false_iff_not]; omega
  rw [e1] at w1
  simp -implicitDefEqProofs (maxSteps := 1000000) (disch := omega) only [↓Int.reduceLT, ↓Int.reduceLE, ↓Int.reduceEq, ↓Nat.reduceEqDiff, Nat.reduceBEq, ↓reduceIte, St.toRS, restrict, initEnv, plainArgs, reduceCtorEq, Nat.reduceEqDiff, Nat.reduceAdd, Nat.reduceMul, Int.reduceLT, Int.reduceLE, Int.reduceEq, Int.reduceNeg, Int.reduceAdd, Int.reduceToNat, Int.reduceNe, Nat.reduceSub, Int.reducePow, Int.reduceMul, vb0, vb1, vb2, vb3, vb4, vb5, vb6, vb7, f_scalar_Get, w1, zeroV, sub, fill, setAt, List.set_cons_zero, List.set_cons_succ, List.getElem?_cons_zero, List.getElem?_cons_succ, List.drop_zero, List.take_succ_cons, List.take_zero]
theorem get_out (k a : Int) (b : List UInt8) (hb : b.length ≤ 1048576) (hk : 1 ≤ k ∧ k ≤ 16) (ha : a < 0 ∨ b.length < a) : C (M false) 8 [.d (.int .i64 k), .d (.slice 1 (bytesD b)), .d (.int .i64 a)] = some (.tup [zeroV, .int .i64 0, .int .i64 18]) := by
  rw [c_fn (sf := f_scalar_Get) rfl rfl ⟨rfl, rfl⟩]
  have w1 := known_spec (q := false) k
  have e1 : knownB k = true := by simp only [knownB, decide_eq_true_eq]; omega
  have w2 := wire_spec (q := false) k
  have g1 := getChunk_out (q := false) b a hb ha
  have g2 := getFix32_out (q := false) b a hb ha
  have g3 := getFix64_out (q := false) b a hb ha
  have g4 := getVarint_out (q := false) b a hb ha
  have zg := zagZig_spec (q := false) 0 (by omega)
  simp only [Int.cast_ofNat_Int, show zag 0 = 0 from rfl] at zg
  rw [e1] at w1
  clear e1 ha
  rcases (by omega : k = 1 ∨ k = 2 ∨ k = 3 ∨ k = 4 ∨ k = 5 ∨ k = 6 ∨ k = 7 ∨ k = 8 ∨ k = 9 ∨ k = 10 ∨ k = 11 ∨ k = 12 ∨ k = 13 ∨ k = 14 ∨ k = 15 ∨ k = 16) with rfl | rfl | rfl | rfl | rfl | rfl | rfl | rfl | rfl | rfl | rfl | rfl | rfl | rfl | rfl | rfl
  all_goals simp -implicitDefEqProofs (maxSteps := 1000000) (disch := omega) only [↓Int.reduceLT, ↓Int.reduceLE, ↓Int.reduceEq, ↓Nat.reduceEqDiff, Nat.reduceBEq, ↓reduceIte, St.toRS, restrict, initEnv, plainArgs, reduceCtorEq, Nat.reduceEqDiff, Nat.reduceAdd, Nat.reduceMul, Int.reduceLT, Int.reduceLE, Int.reduceEq, Int.reduceNeg, Int.reduceAdd, Int.reduceToNat, Int.reduceNe, Nat.reduceSub, Int.reducePow, Int.reduceMul, vb0, vb1, vb2, vb3, vb4, vb5, vb6, vb7, f_scalar_Get, w1, w2, wireI, g1, g2, g3, g4, zg, zeroV, sub, fill, setAt, List.set_cons_zero, List.set_cons_succ, List.getElem?_cons_zero, List.getElem?_cons_succ, List.drop_zero, List.take_succ_cons, List.take_zero]
/-- What both answer: a value, a place, an error; none of the first where there is the last. -/
def okO (r : V) : Prop := ∃ (s : Nat) (N : Int) (c : List UInt8) (t e : Int), r = .tup [valX s 0 N c [], .int .i64 t, .int .i64 e] ∧ (e ≠ 0 → N = 0 ∧ c = [] ∧ s = 0)
theorem numO_ok (k : Int) (r : Nat × Nat × Nat) : okO (numO k r) := by
  simp only [numO]
  split
  · exact ⟨0, 0, [], 0, r.2.2, rfl, fun _ => ⟨rfl, rfl, rfl⟩⟩
  · split
    · exact ⟨0, 0, [], 0, 7, rfl, fun _ => ⟨rfl, rfl, rfl⟩⟩
    · exact ⟨0, _, [], _, 0, rfl, fun h => absurd rfl h⟩
theorem ckO_ok (k : Int) (r : List UInt8 × Nat × Nat) : okO (ckO k r) := by
  simp only [ckO]
  split
  · exact ⟨0, 0, [], 0, r.2.2, rfl, fun _ => ⟨rfl, rfl, rfl⟩⟩
  · split
    · exact ⟨0, 0, [], 0, 8, rfl, fun _ => ⟨rfl, rfl, rfl⟩⟩
    · exact ⟨1, _, _, _, 0, rfl, fun h => absurd rfl h⟩
theorem get_both (k : Int) (b : List UInt8) (a : Nat) (hb : b.length ≤ 1048576) (ha : a ≤ b.length) (hk : 1 ≤ k ∧ k ≤ 16) : ∃ r, okO r ∧
    C (M false) 8 [.d (.int .i64 k), .d (.slice 1 (bytesD b)), .d (.int .i64 a)] = some r ∧ C (M false) 13 [.d (.int .i64 k), .d (.slice 1 (bytesD b)), .d (.int .i64 a)] = some r := by
  rcases (by omega : k = 1 ∨ k = 2 ∨ k = 3 ∨ k = 4 ∨ k = 5 ∨ k = 6 ∨ k = 7 ∨ k = 8 ∨ k = 9 ∨ k = 10 ∨ k = 11 ∨ k = 12 ∨ k = 13 ∨ k = 14 ∨ k = 15 ∨ k = 16) with rfl | rfl | rfl | rfl | rfl | rfl | rfl | rfl | rfl | rfl | rfl | rfl | rfl | rfl | rfl | rfl
  · exact ⟨_, numO_ok _ _, get_1 b a hb ha, rget_1 b a hb ha⟩
  · exact ⟨_, numO_ok _ _, get_2 b a hb ha, rget_2 b a hb ha⟩
  · exact ⟨_, numO_ok _ _, get_3 b a hb ha, rget_3 b a hb ha⟩
  · exact ⟨_, numO_ok _ _, get_4 b a hb ha, rget_4 b a hb ha⟩
  · exact ⟨_, numO_ok _ _, get_5 b a hb ha, rget_5 b a hb ha⟩
  · exact ⟨_, numO_ok _ _, get_6 b a hb ha, rget_6 b a hb ha⟩
  · exact ⟨_, numO_ok _ _, get_7 b a hb ha, rget_7 b a hb ha⟩
  · exact ⟨_, numO_ok _ _, get_8 b a hb ha, rget_8 b a hb ha⟩
  · exact ⟨_, numO_ok _ _, get_9 b a hb ha, rget_9 b a hb ha⟩
  · exact ⟨_, numO_ok _ _, get_10 b a hb ha, rget_10 b a hb ha⟩
  · exact ⟨_, numO_ok _ _, get_11 b a hb ha, rget_11 b a hb ha⟩
  · exact ⟨_, numO_ok _ _, get_12 b a hb ha, rget_12 b a hb ha⟩
  · exact ⟨_, numO_ok _ _, get_13 b a hb ha, rget_13 b a hb ha⟩
  · exact ⟨_, ckO_ok _ _, get_14 b a hb ha, rget_14 b a hb ha⟩
  · exact ⟨_, ckO_ok _ _, get_15 b a hb ha, rget_15 b a hb ha⟩
  · exact ⟨_, numO_ok _ _, get_16 b a hb ha, rget_16 b a hb ha⟩
theorem told_true (s s' : Nat) (N : Int) (c : List UInt8) (e : Int) (h : e ≠ 0 → N = 0 ∧ c = []) :
    C (M false) 12 [.d (valX s 0 N c []), .d (.int .i64 e), .d (valX s' 0 N c []), .d (.int .i64 e)] = some (.d (.bool true)) := by
  rw [c_fn (sf := f_law3_told) rfl rfl ⟨rfl, rfl⟩]
  by_cases he : e = 0
  · subst he
    clear h
    have w := sameX_spec s 0 s' 0 N N c c [] []
    have hs : sameB N c [] N c [] = true := by simp [sameB]
    rw [hs] at w
    simp only [valX] at w ⊢
    simp -implicitDefEqProofs (maxSteps := 1000000) (disch := omega) only [↓Int.reduceLT, ↓Int.reduceLE, ↓Int.reduceEq, ↓Nat.reduceEqDiff, Nat.reduceBEq, ↓reduceIte, St.toRS, restrict, initEnv, plainArgs, reduceCtorEq, Nat.reduceEqDiff, Nat.reduceAdd, Nat.reduceMul, Int.reduceLT, Int.reduceLE, Int.reduceEq, Int.reduceNeg, Int.reduceAdd, Int.reduceToNat, Int.reduceNe, Nat.reduceSub, Int.reducePow, Int.reduceMul, vb0, vb1, vb2, vb3, vb4, vb5, vb6, vb7, f_law3_told, w, sub, fill, setAt, List.set_cons_zero, List.set_cons_succ, List.getElem?_cons_zero, List.getElem?_cons_succ, List.drop_zero, List.take_succ_cons, List.take_zero]
  · obtain ⟨rfl, rfl⟩ := h he
    have w := sameX_spec s 0 0 0 0 0 [] [] [] []
    have hs : sameB 0 [] [] 0 [] [] = true := by simp [sameB]
    rw [hs] at w
    simp only [valX, bytesD_nil] at w ⊢
    simp -implicitDefEqProofs (maxSteps := 1000000) (disch := omega) only [↓Int.reduceLT, ↓Int.reduceLE, ↓Int.reduceEq, ↓Nat.reduceEqDiff, Nat.reduceBEq, ↓reduceIte, St.toRS, restrict, initEnv, plainArgs, reduceCtorEq, Nat.reduceEqDiff, Nat.reduceAdd, Nat.reduceMul, Int.reduceLT, Int.reduceLE, Int.reduceEq, Int.reduceNeg, Int.reduceAdd, Int.reduceToNat, Int.reduceNe, Nat.reduceSub, Int.reducePow, Int.reduceMul, vb0, vb1, vb2, vb3, vb4, vb5, vb6, vb7, f_law3_told, w, sub, fill, setAt, List.set_cons_zero, List.set_cons_succ, List.getElem?_cons_zero, List.getElem?_cons_succ, List.drop_zero, List.take_succ_cons, List.take_zero]
theorem bytes_data (k : Int) (n : Nat) (v b : List UInt8) (ms : List D) (a : Int) (h1 : n < 18446744073709551616) (hv : v.length ≤ 1048576) (hb : b.length ≤ 1048576) :
    C (M false) n_law3_ScalarBytes [.d (.int .i64 k), .d (valX 1 2 n v ms), .d (.slice 1 (bytesD b)), .d (.int .i64 a)] = some (.d (.bool true)) := by
  rw [c_fn (sf := f_law3_ScalarBytes) rfl rfl ⟨rfl, rfl⟩]
  have w0 := awake_data (k := false)
  have w1 := put_spec k n v ms h1 hv
  have w2 := rput_spec k n v ms h1 hv
  have w3 := bsame_spec (if mayE k n v ms = 0 then putL k n v else []) (if mayE k n v ms = 0 then putL k n v else [])
  simp only [decide_true] at w3
  simp only [putD] at w1 w2
  generalize (if mayE k n v ms = 0 then putL k n v else []) = P at *
  generalize mayE k n v ms = e at *
  have hlen := bytesD_length (s := b)
  by_cases hin : (1 ≤ k ∧ k ≤ 16) ∧ 0 ≤ a ∧ a ≤ b.length
  · obtain ⟨hk, ha0, ha1⟩ := hin
    obtain ⟨a, rfl⟩ := Int.eq_ofNat_of_zero_le ha0
    obtain ⟨r, ⟨s, N, c, t, f, hr, hz⟩, g1, g2⟩ := get_both k b a hb (by omega) hk
    rw [hr] at g1 g2
    have w4 := told_true s s N c f (fun h => ⟨(hz h).1, (hz h).2.1⟩)
    clear hz hr
    simp only [valX] at w1 w2 w4 g1 g2 ⊢
    simp -implicitDefEqProofs (maxSteps := 1000000) (disch := omega) only [↓Int.reduceLT, ↓Int.reduceLE, ↓Int.reduceEq, ↓Nat.reduceEqDiff, Nat.reduceBEq, ↓reduceIte, St.toRS, restrict, initEnv, plainArgs, reduceCtorEq, Nat.reduceEqDiff, Nat.reduceAdd, Nat.reduceMul, Int.reduceLT, Int.reduceLE, Int.reduceEq, Int.reduceNeg, Int.reduceAdd, Int.reduceToNat, Int.reduceNe, Nat.reduceSub, Int.reducePow, Int.reduceMul, vb0, vb1, vb2, vb3, vb4, vb5, vb6, vb7, f_law3_ScalarBytes, w0, w1, w2, w3, w4, g1, g2, hlen, sub, fill, setAt, List.set_cons_zero, List.set_cons_succ, List.getElem?_cons_zero, List.getElem?_cons_succ, List.drop_zero, List.take_succ_cons, List.take_zero]
  · have g1 : C (M false) 8 [.d (.int .i64 k), .d (.slice 1 (bytesD b)), .d (.int .i64 a)] = some (.tup [zeroV, .int .i64 0, .int .i64 18]) := by
      by_cases hk : 1 ≤ k ∧ k ≤ 16
      · exact get_out k a b hb hk (by omega)
      · exact get_unknown k a b (by omega)
    have w4 := told_true 0 0 0 [] 18 (fun _ => ⟨rfl, rfl⟩)
    simp only [zeroV] at g1
    simp only [valX, bytesD_nil] at w1 w2 w4 ⊢
    by_cases c1 : k < 1
    · simp -implicitDefEqProofs (maxSteps := 1000000) (disch := omega) only [↓Int.reduceLT, ↓Int.reduceLE, ↓Int.reduceEq, ↓Nat.reduceEqDiff, Nat.reduceBEq, ↓reduceIte, St.toRS, restrict, initEnv, plainArgs, reduceCtorEq, Nat.reduceEqDiff, Nat.reduceAdd, Nat.reduceMul, Int.reduceLT, Int.reduceLE, Int.reduceEq, Int.reduceNeg, Int.reduceAdd, Int.reduceToNat, Int.reduceNe, Nat.reduceSub, Int.reducePow, Int.reduceMul, vb0, vb1, vb2, vb3, vb4, vb5, vb6, vb7, f_law3_ScalarBytes, w0, w1, w2, w3, w4, g1, hlen, sub, fill, setAt, List.set_cons_zero, List.set_cons_succ, List.getElem?_cons_zero, List.getElem?_cons_succ, List.drop_zero, List.take_succ_cons, List.take_zero]
    by_cases c2 : 16 < k
    · simp -implicitDefEqProofs (maxSteps := 1000000) (disch := omega) only [↓Int.reduceLT, ↓Int.reduceLE, ↓Int.reduceEq, ↓Nat.reduceEqDiff, Nat.reduceBEq, ↓reduceIte, St.toRS, restrict, initEnv, plainArgs, reduceCtorEq, Nat.reduceEqDiff, Nat.reduceAdd, Nat.reduceMul, Int.reduceLT, Int.reduceLE, Int.reduceEq, Int.reduceNeg, Int.reduceAdd, Int.reduceToNat, Int.reduceNe, Nat.reduceSub, Int.reducePow, Int.reduceMul, vb0, vb1, vb2, vb3, vb4, vb5, vb6, vb7, f_law3_ScalarBytes, w0, w1, w2, w3, w4, g1, hlen, sub, fill, setAt, List.set_cons_zero, List.set_cons_succ, List.getElem?_cons_zero, List.getElem?_cons_succ, List.drop_zero, List.take_succ_cons, List.take_zero]
    by_cases c3 : a < 0
    · simp -implicitDefEqProofs (maxSteps := 1000000) (disch := omega) only [↓Int.reduceLT, ↓Int.reduceLE, ↓Int.reduceEq, ↓Nat.reduceEqDiff, Nat.reduceBEq, ↓reduceIte, St.toRS, restrict, initEnv, plainArgs, reduceCtorEq, Nat.reduceEqDiff, Nat.reduceAdd, Nat.reduceMul, Int.reduceLT, Int.reduceLE, Int.reduceEq, Int.reduceNeg, Int.reduceAdd, Int.reduceToNat, Int.reduceNe, Nat.reduceSub, Int.reducePow, Int.reduceMul, vb0, vb1, vb2, vb3, vb4, vb5, vb6, vb7, f_law3_ScalarBytes, w0, w1, w2, w3, w4, g1, hlen, sub, fill, setAt, List.set_cons_zero, List.set_cons_succ, List.getElem?_cons_zero, List.getElem?_cons_succ, List.drop_zero, List.take_succ_cons, List.take_zero]
    have c4 : b.length < a := by omega
    simp -implicitDefEqProofs (maxSteps := 1000000) (disch := omega) only [↓Int.reduceLT, ↓Int.reduceLE, ↓Int.reduceEq, ↓Nat.reduceEqDiff, Nat.reduceBEq, ↓reduceIte, St.toRS, restrict, initEnv, plainArgs, reduceCtorEq, Nat.reduceEqDiff, Nat.reduceAdd, Nat.reduceMul, Int.reduceLT, Int.reduceLE, Int.reduceEq, Int.reduceNeg, Int.reduceAdd, Int.reduceToNat, Int.reduceNe, Nat.reduceSub, Int.reducePow, Int.reduceMul, vb0, vb1, vb2, vb3, vb4, vb5, vb6, vb7, f_law3_ScalarBytes, w0, w1, w2, w3, w4, g1, hlen, sub, fill, setAt, List.set_cons_zero, List.set_cons_succ, List.getElem?_cons_zero, List.getElem?_cons_succ, List.drop_zero, List.take_succ_cons, List.take_zero]
end Go.Proofs.YtedncpnkbpbchaaDoor
