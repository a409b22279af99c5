/-
  unicode/utf8.Valid over data: a round.
-/
import Derived.Test.YtedncpnkbpbchaaDoorChr3
set_option linter.unusedVariables false
set_option linter.unusedSimpArgs false
set_option maxRecDepth 100000
set_option maxHeartbeats 8000000
namespace Go.Proofs.YtedncpnkbpbchaaDoor.U
open Go.Vi

theorem v_ascii (c : UInt8) (r : List UInt8) (hm : r.length + 1 ≤ 140737488355328) (hc : c.toNat < 128) (ex : List (Nat × V)) :
    ∃ k ex', asc k r ∧ X (M false) l_unicode_utf8_Valid_1 (v_st (c :: r) ex) = some (.norm, v_st (r.drop k) ex') := by
  have g0 : (bytesD (c :: r))[0]? = some (byteD c) := rfl
  have d1 : (bytesD (c :: r)).drop 1 = bytesD r := rfl
  have hl : (bytesD (c :: r)).length = r.length + 1 := by simp [bytesD]
  have tk : (bytesD (c :: r)).take (r.length + 1) = bytesD (c :: r) := by rw [← hl, List.take_length]
  have tk1 : (bytesD r).take r.length = bytesD r := by rw [bytesD_take, List.take_length]
  by_cases h8 : r.length ≤ 8
  · refine ⟨0, [(31, .d (.bool false))], asc_zero r, ?_⟩
    simp -implicitDefEqProofs (maxSteps := 1000000) (disch := omega) only [↓Int.reduceLT, ↓Int.reduceLE, ↓Int.reduceEq, ↓Nat.reduceEqDiff, Nat.reduceBEq, ↓reduceIte, St.toRS, restrict, initEnv, plainArgs, reduceCtorEq, Nat.reduceEqDiff, Nat.reduceAdd, Nat.reduceMul, Int.reduceLT, Int.reduceLE, Int.reduceEq, Int.reduceNeg, Int.reduceAdd, Int.reduceToNat, Int.reduceNe, Nat.reduceSub, Int.reducePow, Int.reduceMul, vb0, vb1, vb2, vb3, vb4, vb5, vb6, vb7, l_unicode_utf8_Valid_1, v_st, g0, byteD, hl, tk, d1, bytesD_length, List.drop_zero]
  have w0 := word_spec r (by omega)
  by_cases z0 : hi0 (W r)
  case neg =>
    have z0' : ¬ (bitsD .and .u64 (W r) 9259542123273814144 = 0) := z0
    refine ⟨0, [(31, .d (.bool false))], asc_zero r, ?_⟩
    simp -implicitDefEqProofs (maxSteps := 1000000) (disch := omega) only [↓Int.reduceLT, ↓Int.reduceLE, ↓Int.reduceEq, ↓Nat.reduceEqDiff, Nat.reduceBEq, ↓reduceIte, St.toRS, restrict, initEnv, plainArgs, reduceCtorEq, Nat.reduceEqDiff, Nat.reduceAdd, Nat.reduceMul, Int.reduceLT, Int.reduceLE, Int.reduceEq, Int.reduceNeg, Int.reduceAdd, Int.reduceToNat, Int.reduceNe, Nat.reduceSub, Int.reducePow, Int.reduceMul, vb0, vb1, vb2, vb3, vb4, vb5, vb6, vb7, l_unicode_utf8_Valid_1, v_st, g0, byteD, hl, tk, d1, bytesD_length, List.drop_zero, w0, z0']
  have a0 := asc_word (by omega) z0
  have z0' : bitsD .and .u64 (W r) 9259542123273814144 = 0 := z0
  have tk8 : (bytesD (r.drop 8)).take (r.length - 8) = bytesD (r.drop 8) := by rw [bytesD_take, ← List.length_drop, List.take_length]
  by_cases h24 : r.length ≤ 24
  · refine ⟨8, [(46, .d (.bool false))], a0, ?_⟩
    simp -implicitDefEqProofs (maxSteps := 1000000) (disch := omega) only [↓Int.reduceLT, ↓Int.reduceLE, ↓Int.reduceEq, ↓Nat.reduceEqDiff, Nat.reduceBEq, ↓reduceIte, St.toRS, restrict, initEnv, plainArgs, reduceCtorEq, Nat.reduceEqDiff, Nat.reduceAdd, Nat.reduceMul, Int.reduceLT, Int.reduceLE, Int.reduceEq, Int.reduceNeg, Int.reduceAdd, Int.reduceToNat, Int.reduceNe, Nat.reduceSub, Int.reducePow, Int.reduceMul, vb0, vb1, vb2, vb3, vb4, vb5, vb6, vb7, l_unicode_utf8_Valid_1, v_st, g0, byteD, hl, tk, tk1, d1, bytesD_length, List.length_drop, w0, z0', bytesD_drop, tk8]
  have w1 := word_spec (r.drop 8) (by simp; omega)
  have w2 := word_spec (r.drop 16) (by simp; omega)
  by_cases z1 : hi0 (bitsD .or .u64 (W (r.drop 8)) (W (r.drop 16)))
  case neg =>
    have z1' : ¬ (bitsD .and .u64 (bitsD .or .u64 (W (r.drop 8)) (W (r.drop 16))) 9259542123273814144 = 0) := z1
    refine ⟨8, [(46, .d (.bool false))], a0, ?_⟩
    simp -implicitDefEqProofs (maxSteps := 1000000) (disch := omega) only [↓Int.reduceLT, ↓Int.reduceLE, ↓Int.reduceEq, ↓Nat.reduceEqDiff, Nat.reduceBEq, ↓reduceIte, St.toRS, restrict, initEnv, plainArgs, reduceCtorEq, Nat.reduceEqDiff, Nat.reduceAdd, Nat.reduceMul, Int.reduceLT, Int.reduceLE, Int.reduceEq, Int.reduceNeg, Int.reduceAdd, Int.reduceToNat, Int.reduceNe, Nat.reduceSub, Int.reducePow, Int.reduceMul, vb0, vb1, vb2, vb3, vb4, vb5, vb6, vb7, l_unicode_utf8_Valid_1, v_st, g0, byteD, hl, tk, tk1, d1, bytesD_length, List.length_drop, w0, z0', bytesD_drop, tk8, List.drop_drop, Nat.reduceAdd, w1, w2, z1']
  have z1' : bitsD .and .u64 (bitsD .or .u64 (W (r.drop 8)) (W (r.drop 16))) 9259542123273814144 = 0 := z1
  obtain ⟨y1, y2⟩ := hi0_or z1
  have a1 := asc_add a0 (asc_word (by simp; omega) y1)
  have a2 := asc_add a1 (asc_word (by simp; omega) y2)
  have tk24 : (bytesD (r.drop 24)).take (r.length - 24) = bytesD (r.drop 24) := by rw [bytesD_take, ← List.length_drop, List.take_length]
  obtain ⟨k, hk, hx⟩ := v19 (r.drop 24).length (r.drop 24) (Nat.le_refl _) (by simp; omega)
  refine ⟨24 + k, [(69, .d (.bool false))], asc_add a2 hk, ?_⟩
  simp only [v_st, List.drop_drop] at hx
  simp -implicitDefEqProofs (maxSteps := 1000000) (disch := omega) only [↓Int.reduceLT, ↓Int.reduceLE, ↓Int.reduceEq, ↓Nat.reduceEqDiff, Nat.reduceBEq, ↓reduceIte, St.toRS, restrict, initEnv, plainArgs, reduceCtorEq, Nat.reduceEqDiff, Nat.reduceAdd, Nat.reduceMul, Int.reduceLT, Int.reduceLE, Int.reduceEq, Int.reduceNeg, Int.reduceAdd, Int.reduceToNat, Int.reduceNe, Nat.reduceSub, Int.reducePow, Int.reduceMul, vb0, vb1, vb2, vb3, vb4, vb5, vb6, vb7, l_unicode_utf8_Valid_1, v_st, g0, byteD, hl, tk, tk1, d1, bytesD_length, List.length_drop, w0, z0', bytesD_drop, tk8, List.drop_drop, Nat.reduceAdd, w1, w2, z1', tk24, hx]
end Go.Proofs.YtedncpnkbpbchaaDoor.U
