/-
  The law ScalarBytes, over data.
-/
import Derived.Test.YtedncpnkbpbchaaGreatDoorGet
set_option linter.unusedVariables false
set_option linter.unusedSimpArgs false
set_option maxRecDepth 100000
set_option maxHeartbeats 16000000
namespace Go.Proofs.YtedncpnkbpbchaaGreatDoor
open Go.Vi

theorem ckP_len (b : List UInt8) (a : Nat) : (ckP b a).1.length ≤ b.length := by
  simp only [ckP]
  split
  · simp
  · split
    · simp
    · simp; omega
def ckO (k : Int) (r : List UInt8 × Nat × Nat) : V :=
  if r.2.2 ≠ 0 then .tup [zeroV, .int .i64 0, .int .i64 r.2.2]
  else if k = 14 ∧ txtB r.1 = false then .tup [zeroV, .int .i64 0, .int .i64 8] else .tup [.agg [.int .u64 0, .slice 1 (bytesD r.1), .slice 0 []], .int .i64 r.2.1, .int .i64 0]

theorem get_14 (b : List UInt8) (a : Nat) (hb : b.length ≤ 2097152) (ha : a ≤ b.length) : C M 9 [.d (.int .i64 14), .d (.slice 1 (bytesD b)), .d (.int .i64 a)] = some (ckO 14 (ckP b a)) := by
  rw [c_fn (sf := f_scalar_Get) rfl rfl ⟨rfl, rfl⟩]
  have g := getChunk_spec b a hb ha
  have w1 := known_spec 14
  have w2 := wire_spec 14
  have e1 : knownB 14 = true := by decide
  have lt := ckP_len b a
  rw [e1] at w1
  simp only [ckD] at g
  generalize ckP b a = r at *
  obtain ⟨c, t, e⟩ := r
  simp only [ckO] at g lt ⊢
  have mm := may_spec 1 0 14 0 c [] (by omega) (by omega) (by omega) (fun _ => rfl)
  have hm : mayE 14 0 c [] = if txtB c = false then 8 else 0 := by
    have f : fitsB 14 0 c [] = true := by simp [fitsB, knownB, numericB]
    simp [mayE, e1, f]
  rw [hm] at mm
  simp only [valX] at mm
  clear hm
  by_cases he : e = 0
  · subst he
    rw [if_neg (by simp)]
    cases hh : txtB c with
    | false =>
      rw [if_pos ⟨trivial, rfl⟩]
      simp only [hh, if_true] at mm
      simp -implicitDefEqProofs (maxSteps := 1000000) (disch := omega) only [↓Int.reduceLT, ↓Int.reduceLE, ↓Int.reduceEq, ↓Nat.reduceEqDiff, Nat.reduceBEq, ↓reduceIte, St.toRS, restrict, initEnv, plainArgs, reduceCtorEq, Nat.reduceEqDiff, Nat.reduceAdd, Nat.reduceMul, Int.reduceLT, Int.reduceLE, Int.reduceEq, Int.reduceNeg, Int.reduceAdd, Int.reduceToNat, Int.reduceNe, Nat.reduceSub, Int.reducePow, Int.reduceMul, vb0, vb1, vb2, vb3, vb4, vb5, vb6, vb7, f_scalar_Get, g, w1, w2, wireI, zeroV, sub, fill, setAt, List.set_cons_zero, List.set_cons_succ, List.getElem?_cons_zero, List.getElem?_cons_succ, List.drop_zero, List.take_succ_cons, List.take_zero, mm]
    | true =>
      rw [if_neg (by simp)]
      simp only [hh, Bool.true_eq_false, if_false] at mm
      simp -implicitDefEqProofs (maxSteps := 1000000) (disch := omega) only [↓Int.reduceLT, ↓Int.reduceLE, ↓Int.reduceEq, ↓Nat.reduceEqDiff, Nat.reduceBEq, ↓reduceIte, St.toRS, restrict, initEnv, plainArgs, reduceCtorEq, Nat.reduceEqDiff, Nat.reduceAdd, Nat.reduceMul, Int.reduceLT, Int.reduceLE, Int.reduceEq, Int.reduceNeg, Int.reduceAdd, Int.reduceToNat, Int.reduceNe, Nat.reduceSub, Int.reducePow, Int.reduceMul, vb0, vb1, vb2, vb3, vb4, vb5, vb6, vb7, f_scalar_Get, g, w1, w2, wireI, zeroV, sub, fill, setAt, List.set_cons_zero, List.set_cons_succ, List.getElem?_cons_zero, List.getElem?_cons_succ, List.drop_zero, List.take_succ_cons, List.take_zero, mm]
  · rw [if_pos he]
    clear mm
    simp -implicitDefEqProofs (maxSteps := 1000000) (disch := omega) only [↓Int.reduceLT, ↓Int.reduceLE, ↓Int.reduceEq, ↓Nat.reduceEqDiff, Nat.reduceBEq, ↓reduceIte, St.toRS, restrict, initEnv, plainArgs, reduceCtorEq, Nat.reduceEqDiff, Nat.reduceAdd, Nat.reduceMul, Int.reduceLT, Int.reduceLE, Int.reduceEq, Int.reduceNeg, Int.reduceAdd, Int.reduceToNat, Int.reduceNe, Nat.reduceSub, Int.reducePow, Int.reduceMul, vb0, vb1, vb2, vb3, vb4, vb5, vb6, vb7, f_scalar_Get, g, w1, w2, wireI, zeroV, sub, fill, setAt, List.set_cons_zero, List.set_cons_succ, List.getElem?_cons_zero, List.getElem?_cons_succ, List.drop_zero, List.take_succ_cons, List.take_zero]
theorem get_15 (b : List UInt8) (a : Nat) (hb : b.length ≤ 2097152) (ha : a ≤ b.length) : C M 9 [.d (.int .i64 15), .d (.slice 1 (bytesD b)), .d (.int .i64 a)] = some (ckO 15 (ckP b a)) := by
  rw [c_fn (sf := f_scalar_Get) rfl rfl ⟨rfl, rfl⟩]
  have g := getChunk_spec b a hb ha
  have w1 := known_spec 15
  have w2 := wire_spec 15
  have e1 : knownB 15 = true := by decide
  have lt := ckP_len b a
  rw [e1] at w1
  simp only [ckD] at g
  generalize ckP b a = r at *
  obtain ⟨c, t, e⟩ := r
  simp only [ckO] at g lt ⊢
  have mm := may_spec 1 0 15 0 c [] (by omega) (by omega) (by omega) (fun _ => rfl)
  have hm : mayE 15 0 c [] = if False then 8 else 0 := by
    have f : fitsB 15 0 c [] = true := by simp [fitsB, knownB, numericB]
    simp [mayE, e1, f]
  rw [hm] at mm
  simp only [valX] at mm
  clear hm
  by_cases he : e = 0
  · subst he
    rw [if_neg (by simp), if_neg (by simp)]
    try simp only [if_false] at mm
    simp -implicitDefEqProofs (maxSteps := 1000000) (disch := omega) only [↓Int.reduceLT, ↓Int.reduceLE, ↓Int.reduceEq, ↓Nat.reduceEqDiff, Nat.reduceBEq, ↓reduceIte, St.toRS, restrict, initEnv, plainArgs, reduceCtorEq, Nat.reduceEqDiff, Nat.reduceAdd, Nat.reduceMul, Int.reduceLT, Int.reduceLE, Int.reduceEq, Int.reduceNeg, Int.reduceAdd, Int.reduceToNat, Int.reduceNe, Nat.reduceSub, Int.reducePow, Int.reduceMul, vb0, vb1, vb2, vb3, vb4, vb5, vb6, vb7, f_scalar_Get, g, w1, w2, wireI, zeroV, sub, fill, setAt, List.set_cons_zero, List.set_cons_succ, List.getElem?_cons_zero, List.getElem?_cons_succ, List.drop_zero, List.take_succ_cons, List.take_zero, mm]
  · rw [if_pos he]
    clear mm
    simp -implicitDefEqProofs (maxSteps := 1000000) (disch := omega) only [↓Int.reduceLT, ↓Int.reduceLE, ↓Int.reduceEq, ↓Nat.reduceEqDiff, Nat.reduceBEq, ↓reduceIte, St.toRS, restrict, initEnv, plainArgs, reduceCtorEq, Nat.reduceEqDiff, Nat.reduceAdd, Nat.reduceMul, Int.reduceLT, Int.reduceLE, Int.reduceEq, Int.reduceNeg, Int.reduceAdd, Int.reduceToNat, Int.reduceNe, Nat.reduceSub, Int.reducePow, Int.reduceMul, vb0, vb1, vb2, vb3, vb4, vb5, vb6, vb7, f_scalar_Get, g, w1, w2, wireI, zeroV, sub, fill, setAt, List.set_cons_zero, List.set_cons_succ, List.getElem?_cons_zero, List.getElem?_cons_succ, List.drop_zero, List.take_succ_cons, List.take_zero]
end Go.Proofs.YtedncpnkbpbchaaGreatDoor
