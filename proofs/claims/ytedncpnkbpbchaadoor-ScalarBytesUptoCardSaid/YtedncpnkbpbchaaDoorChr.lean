/-
  Characters in UTF-8: the plain step; a round of the reference's Runes: over data.
-/
import Derived.Test.YtedncpnkbpbchaaDoorFns
import Derived.Test.YtedncpnkbpbchaaDoorViSet
set_option linter.unusedVariables false
set_option linter.unusedSimpArgs false
set_option maxRecDepth 100000
set_option maxHeartbeats 8000000
namespace Go.Proofs.YtedncpnkbpbchaaDoor.U
open Go.Vi

def conB (d : UInt8) : Bool := decide (128 ≤ d.toNat ∧ d.toNat ≤ 191)
/-- The bytes behind the first one: the number; none: they are not of this form. -/
def cont : List UInt8 → Int → Option Int
  | [], v => some v
  | d :: r, v => if conB d then cont r (v * 64 + d.toNat - 128) else none
/-- May a number stand in so many bytes? -/
def okV (low w : Int) : Bool := decide (low ≤ w ∧ w ≤ 1114111 ∧ (w < 55296 ∨ 57343 < w))
def tailV (size : Nat) (v low : Int) (r : List UInt8) : Option Nat :=
  if r.length + 1 < size then none else
  match cont (r.take (size - 1)) v with
  | none => none
  | some w => if okV low w then some size else none
/-- How many bytes the first character has; none: there is no character. -/
def chr : List UInt8 → Option Nat
  | [] => none
  | c :: r =>
    if c.toNat < 128 then some 1
    else if c.toNat < 192 then none
    else if c.toNat < 224 then tailV 2 (c.toNat - 192) 128 r
    else if c.toNat < 240 then tailV 3 (c.toNat - 224) 2048 r
    else if c.toNat < 248 then tailV 4 (c.toNat - 240) 65536 r
    else none

def k_inv (b : List UInt8) (n i : Nat) : St := { env := [(0, .d (.slice 1 (bytesD b))), (3, .d (.int .i64 n)), (4, .d (.int .i64 i))], bx := [] }
def k_fail : Option (Ex × St) := some (.ret, { env := [(2, .d (.int .i64 (-1)))], bx := [] })
/-- The state of the inner loop. -/
def j_inv (b : List UInt8) (n i : Nat) (size v low : Int) (k : Nat) : St :=
  { env := [(0, .d (.slice 1 (bytesD b))), (3, .d (.int .i64 n)), (4, .d (.int .i64 i)), (6, .d (.int .i64 size)), (7, .d (.int .i64 v)), (8, .d (.int .i64 low)), (9, .d (.int .i64 k))], bx := [] }
def j_end (b : List UInt8) (n i : Nat) (size v low : Int) (k : Nat) : St :=
  { env := [(0, .d (.slice 1 (bytesD b))), (3, .d (.int .i64 n)), (4, .d (.int .i64 i)), (6, .d (.int .i64 size)), (7, .d (.int .i64 v)), (8, .d (.int .i64 low)), (9, .d (.int .i64 k)), (57, .d (.bool false))], bx := [] }

theorem j_loop (b : List UInt8) (n i size : Nat) (low : Int) (hb : b.length ≤ 140737488355328) (hl : i + size ≤ b.length) : ∀ (m k : Nat) (v : Int), k + m = size → 1 ≤ k → k ≤ 4 → size ≤ 4 → 0 ≤ v → v < 2 * 64 ^ k →
    X (M false) (.loop l_ref2_Runes_6) (j_inv b n i size v low k) = match cont ((b.drop (i + k)).take m) v with
      | none => k_fail
      | some w => some (.exit 2, j_end b n i size w low size)
  | 0, k, v, hk, _, _, _, _, _ => by
    obtain rfl : k = size := by omega
    simp only [List.take_zero, cont]
    refine loop_exit ?_ (by simp)
    simp -implicitDefEqProofs (maxSteps := 1000000) (disch := omega) only [↓Int.reduceLT, ↓Int.reduceLE, ↓Int.reduceEq, ↓Nat.reduceEqDiff, Nat.reduceBEq, ↓reduceIte, St.toRS, restrict, initEnv, plainArgs, reduceCtorEq, Nat.reduceEqDiff, Nat.reduceAdd, Nat.reduceMul, Int.reduceLT, Int.reduceLE, Int.reduceEq, Int.reduceNeg, Int.reduceAdd, Int.reduceToNat, Int.reduceNe, Nat.reduceSub, Int.reducePow, Int.reduceMul, vb0, vb1, vb2, vb3, vb4, vb5, vb6, vb7, l_ref2_Runes_6, j_inv, j_end]
  | m + 1, k, v, hk, h1, h4, hs, v0, v1 => by
    have hi : i + k < b.length := by omega
    have hd : b[i + k]? = some b[i + k] := by simp [hi]
    rw [List.drop_eq_getElem_cons hi, List.take_succ_cons, cont]
    generalize b[i + k] = d at hd
    have hdl := d.toNat_lt
    have hv : v < 33554432 := by
      have : (64 : Int) ^ k ≤ 64 ^ 4 := by
        have : (64 : Nat) ^ k ≤ 64 ^ 4 := Nat.pow_le_pow_right (by omega) h4
        exact_mod_cast this
      have e : (64 : Int) ^ 4 = 16777216 := by decide
      omega
    cases hc : conB d with
    | false =>
      simp only [conB, decide_eq_false_iff_not] at hc
      simp only [Bool.false_eq_true, if_false]
      refine loop_exit ?_ (by simp)
      by_cases h : d.toNat < 128
      · simp -implicitDefEqProofs (maxSteps := 1000000) (disch := omega) only [↓Int.reduceLT, ↓Int.reduceLE, ↓Int.reduceEq, ↓Nat.reduceEqDiff, Nat.reduceBEq, ↓reduceIte, St.toRS, restrict, initEnv, plainArgs, reduceCtorEq, Nat.reduceEqDiff, Nat.reduceAdd, Nat.reduceMul, Int.reduceLT, Int.reduceLE, Int.reduceEq, Int.reduceNeg, Int.reduceAdd, Int.reduceToNat, Int.reduceNe, Nat.reduceSub, Int.reducePow, Int.reduceMul, vb0, vb1, vb2, vb3, vb4, vb5, vb6, vb7, l_ref2_Runes_6, j_inv, bytesD_get, hd, byteD]
      · simp -implicitDefEqProofs (maxSteps := 1000000) (disch := omega) only [↓Int.reduceLT, ↓Int.reduceLE, ↓Int.reduceEq, ↓Nat.reduceEqDiff, Nat.reduceBEq, ↓reduceIte, St.toRS, restrict, initEnv, plainArgs, reduceCtorEq, Nat.reduceEqDiff, Nat.reduceAdd, Nat.reduceMul, Int.reduceLT, Int.reduceLE, Int.reduceEq, Int.reduceNeg, Int.reduceAdd, Int.reduceToNat, Int.reduceNe, Nat.reduceSub, Int.reducePow, Int.reduceMul, vb0, vb1, vb2, vb3, vb4, vb5, vb6, vb7, l_ref2_Runes_6, j_inv, bytesD_get, hd, byteD]
    | true =>
      simp only [conB, decide_eq_true_eq] at hc
      simp only [if_true]
      have hr : X (M false) l_ref2_Runes_6 (j_inv b n i size v low k) = some (.norm, j_inv b n i size (v * 64 + d.toNat - 128) low (k + 1)) := by
        simp -implicitDefEqProofs (maxSteps := 1000000) (disch := omega) only [↓Int.reduceLT, ↓Int.reduceLE, ↓Int.reduceEq, ↓Nat.reduceEqDiff, Nat.reduceBEq, ↓reduceIte, St.toRS, restrict, initEnv, plainArgs, reduceCtorEq, Nat.reduceEqDiff, Nat.reduceAdd, Nat.reduceMul, Int.reduceLT, Int.reduceLE, Int.reduceEq, Int.reduceNeg, Int.reduceAdd, Int.reduceToNat, Int.reduceNe, Nat.reduceSub, Int.reducePow, Int.reduceMul, vb0, vb1, vb2, vb3, vb4, vb5, vb6, vb7, l_ref2_Runes_6, j_inv, bytesD_get, hd, byteD]
      have hp : v * 64 + d.toNat - 128 < 2 * 64 ^ (k + 1) := by
        rw [Int.pow_succ]; omega
      by_cases hk4 : k + 1 ≤ 4
      · have := j_loop b n i size low hb hl m (k + 1) (v * 64 + d.toNat - 128) (by omega) (by omega) hk4 hs (by omega) hp
        rw [X_loop, hr]
        exact this
      · omega

theorem k_round (b : List UInt8) (n i : Nat) (hb : b.length ≤ 140737488355328) (hn : n ≤ b.length) (hi : i < b.length) :
    X (M false) l_ref2_Runes_1 (k_inv b n i) = match chr (b.drop i) with
      | none => k_fail
      | some k => some (.norm, k_inv b (n + 1) (i + k)) := by
  have hg : b[i]? = some b[i] := by simp [hi]
  have hdrop : b.drop i = b[i] :: b.drop (i + 1) := List.drop_eq_getElem_cons hi
  rw [hdrop, chr]
  generalize hc : b[i] = c at hg ⊢
  have hlt : c.toNat < 256 := c.toNat_lt
  have hlen : (b.drop (i + 1)).length = b.length - (i + 1) := by simp
  by_cases h128 : c.toNat < 128
  · simp only [h128, if_true]
    have hl := j_loop b n i 1 0 hb (by omega) 0 1 c.toNat (by omega) (by omega) (by omega) (by omega) (by omega) (by omega)
    simp only [List.take_zero, cont, j_inv, j_end, Int.cast_ofNat_Int] at hl
    simp -implicitDefEqProofs (maxSteps := 1000000) (disch := omega) only [↓Int.reduceLT, ↓Int.reduceLE, ↓Int.reduceEq, ↓Nat.reduceEqDiff, Nat.reduceBEq, ↓reduceIte, St.toRS, restrict, initEnv, plainArgs, reduceCtorEq, Nat.reduceEqDiff, Nat.reduceAdd, Nat.reduceMul, Int.reduceLT, Int.reduceLE, Int.reduceEq, Int.reduceNeg, Int.reduceAdd, Int.reduceToNat, Int.reduceNe, Nat.reduceSub, Int.reducePow, Int.reduceMul, vb0, vb1, vb2, vb3, vb4, vb5, vb6, vb7, l_ref2_Runes_1, k_inv, bytesD_length, bytesD_get, hg, byteD, hl]
  by_cases hbad : c.toNat < 192 ∨ 248 ≤ c.toNat
  · have e : (if c.toNat < 128 then some 1 else if c.toNat < 192 then none else if c.toNat < 224 then tailV 2 (c.toNat - 192) 128 (b.drop (i + 1)) else if c.toNat < 240 then tailV 3 (c.toNat - 224) 2048 (b.drop (i + 1)) else if c.toNat < 248 then tailV 4 (c.toNat - 240) 65536 (b.drop (i + 1)) else none) = (none : Option Nat) := by
      repeat (first | rfl | omega | split)
    rw [e]
    by_cases h192 : c.toNat < 192
    · simp -implicitDefEqProofs (maxSteps := 1000000) (disch := omega) only [↓Int.reduceLT, ↓Int.reduceLE, ↓Int.reduceEq, ↓Nat.reduceEqDiff, Nat.reduceBEq, ↓reduceIte, St.toRS, restrict, initEnv, plainArgs, reduceCtorEq, Nat.reduceEqDiff, Nat.reduceAdd, Nat.reduceMul, Int.reduceLT, Int.reduceLE, Int.reduceEq, Int.reduceNeg, Int.reduceAdd, Int.reduceToNat, Int.reduceNe, Nat.reduceSub, Int.reducePow, Int.reduceMul, vb0, vb1, vb2, vb3, vb4, vb5, vb6, vb7, l_ref2_Runes_1, k_inv, bytesD_length, bytesD_get, hg, byteD, k_fail]
    · simp -implicitDefEqProofs (maxSteps := 1000000) (disch := omega) only [↓Int.reduceLT, ↓Int.reduceLE, ↓Int.reduceEq, ↓Nat.reduceEqDiff, Nat.reduceBEq, ↓reduceIte, St.toRS, restrict, initEnv, plainArgs, reduceCtorEq, Nat.reduceEqDiff, Nat.reduceAdd, Nat.reduceMul, Int.reduceLT, Int.reduceLE, Int.reduceEq, Int.reduceNeg, Int.reduceAdd, Int.reduceToNat, Int.reduceNe, Nat.reduceSub, Int.reducePow, Int.reduceMul, vb0, vb1, vb2, vb3, vb4, vb5, vb6, vb7, l_ref2_Runes_1, k_inv, bytesD_length, bytesD_get, hg, byteD, k_fail]
  have cls : (192 ≤ c.toNat ∧ c.toNat < 224) ∨ (224 ≤ c.toNat ∧ c.toNat < 240) ∨ (240 ≤ c.toNat ∧ c.toNat < 248) := by omega
  rcases cls with ⟨ha, hz⟩ | ⟨ha, hz⟩ | ⟨ha, hz⟩
  · simp only [h128, show ¬ c.toNat < 192 by omega, hz, if_true, if_false, tailV, hlen]
    by_cases hs : b.length - (i + 1) + 1 < 2
    · simp only [hs, if_true]
      simp -implicitDefEqProofs (maxSteps := 1000000) (disch := omega) only [↓Int.reduceLT, ↓Int.reduceLE, ↓Int.reduceEq, ↓Nat.reduceEqDiff, Nat.reduceBEq, ↓reduceIte, St.toRS, restrict, initEnv, plainArgs, reduceCtorEq, Nat.reduceEqDiff, Nat.reduceAdd, Nat.reduceMul, Int.reduceLT, Int.reduceLE, Int.reduceEq, Int.reduceNeg, Int.reduceAdd, Int.reduceToNat, Int.reduceNe, Nat.reduceSub, Int.reducePow, Int.reduceMul, vb0, vb1, vb2, vb3, vb4, vb5, vb6, vb7, l_ref2_Runes_1, k_inv, bytesD_length, bytesD_get, hg, byteD, k_fail]
    simp only [hs, if_false]
    have hl := j_loop b n i 2 128 hb (by omega) 1 1 (c.toNat - 192) (by omega) (by omega) (by omega) (by omega) (by omega) (by omega)
    simp only [Nat.reduceSub] at hl ⊢
    cases hco : cont ((b.drop (i + 1)).take 1) (c.toNat - 192) with
    | none =>
      simp only [hco, j_inv, j_end, Int.cast_ofNat_Int] at hl
      simp -implicitDefEqProofs (maxSteps := 1000000) (disch := omega) only [↓Int.reduceLT, ↓Int.reduceLE, ↓Int.reduceEq, ↓Nat.reduceEqDiff, Nat.reduceBEq, ↓reduceIte, St.toRS, restrict, initEnv, plainArgs, reduceCtorEq, Nat.reduceEqDiff, Nat.reduceAdd, Nat.reduceMul, Int.reduceLT, Int.reduceLE, Int.reduceEq, Int.reduceNeg, Int.reduceAdd, Int.reduceToNat, Int.reduceNe, Nat.reduceSub, Int.reducePow, Int.reduceMul, vb0, vb1, vb2, vb3, vb4, vb5, vb6, vb7, l_ref2_Runes_1, k_inv, bytesD_length, bytesD_get, hg, byteD, hl, k_fail]
    | some w =>
      simp only [hco, j_inv, j_end, Int.cast_ofNat_Int] at hl
      simp only []
      cases ho : okV 128 w with
      | true =>
        simp only [okV, decide_eq_true_eq] at ho
        simp only [if_true]
        rcases ho with ⟨o1, o2, o3 | o3⟩ <;> first | (exfalso; omega) | (simp -implicitDefEqProofs (maxSteps := 1000000) (disch := omega) only [↓Int.reduceLT, ↓Int.reduceLE, ↓Int.reduceEq, ↓Nat.reduceEqDiff, Nat.reduceBEq, ↓reduceIte, St.toRS, restrict, initEnv, plainArgs, reduceCtorEq, Nat.reduceEqDiff, Nat.reduceAdd, Nat.reduceMul, Int.reduceLT, Int.reduceLE, Int.reduceEq, Int.reduceNeg, Int.reduceAdd, Int.reduceToNat, Int.reduceNe, Nat.reduceSub, Int.reducePow, Int.reduceMul, vb0, vb1, vb2, vb3, vb4, vb5, vb6, vb7, l_ref2_Runes_1, k_inv, bytesD_length, bytesD_get, hg, byteD, hl])
      | false =>
        simp only [okV, decide_eq_false_iff_not] at ho
        simp only [Bool.false_eq_true, if_false]
        by_cases o1 : w < 128
        · simp -implicitDefEqProofs (maxSteps := 1000000) (disch := omega) only [↓Int.reduceLT, ↓Int.reduceLE, ↓Int.reduceEq, ↓Nat.reduceEqDiff, Nat.reduceBEq, ↓reduceIte, St.toRS, restrict, initEnv, plainArgs, reduceCtorEq, Nat.reduceEqDiff, Nat.reduceAdd, Nat.reduceMul, Int.reduceLT, Int.reduceLE, Int.reduceEq, Int.reduceNeg, Int.reduceAdd, Int.reduceToNat, Int.reduceNe, Nat.reduceSub, Int.reducePow, Int.reduceMul, vb0, vb1, vb2, vb3, vb4, vb5, vb6, vb7, l_ref2_Runes_1, k_inv, bytesD_length, bytesD_get, hg, byteD, hl, k_fail]
        by_cases o2 : 1114111 < w
        · simp -implicitDefEqProofs (maxSteps := 1000000) (disch := omega) only [↓Int.reduceLT, ↓Int.reduceLE, ↓Int.reduceEq, ↓Nat.reduceEqDiff, Nat.reduceBEq, ↓reduceIte, St.toRS, restrict, initEnv, plainArgs, reduceCtorEq, Nat.reduceEqDiff, Nat.reduceAdd, Nat.reduceMul, Int.reduceLT, Int.reduceLE, Int.reduceEq, Int.reduceNeg, Int.reduceAdd, Int.reduceToNat, Int.reduceNe, Nat.reduceSub, Int.reducePow, Int.reduceMul, vb0, vb1, vb2, vb3, vb4, vb5, vb6, vb7, l_ref2_Runes_1, k_inv, bytesD_length, bytesD_get, hg, byteD, hl, k_fail]
        · simp -implicitDefEqProofs (maxSteps := 1000000) (disch := omega) only [↓Int.reduceLT, ↓Int.reduceLE, ↓Int.reduceEq, ↓Nat.reduceEqDiff, Nat.reduceBEq, ↓reduceIte, St.toRS, restrict, initEnv, plainArgs, reduceCtorEq, Nat.reduceEqDiff, Nat.reduceAdd, Nat.reduceMul, Int.reduceLT, Int.reduceLE, Int.reduceEq, Int.reduceNeg, Int.reduceAdd, Int.reduceToNat, Int.reduceNe, Nat.reduceSub, Int.reducePow, Int.reduceMul, vb0, vb1, vb2, vb3, vb4, vb5, vb6, vb7, l_ref2_Runes_1, k_inv, bytesD_length, bytesD_get, hg, byteD, hl, k_fail]
  · simp only [h128, show ¬ c.toNat < 192 by omega, show ¬ c.toNat < 224 by omega, hz, if_true, if_false, tailV, hlen]
    by_cases hs : b.length - (i + 1) + 1 < 3
    · simp only [hs, if_true]
      simp -implicitDefEqProofs (maxSteps := 1000000) (disch := omega) only [↓Int.reduceLT, ↓Int.reduceLE, ↓Int.reduceEq, ↓Nat.reduceEqDiff, Nat.reduceBEq, ↓reduceIte, St.toRS, restrict, initEnv, plainArgs, reduceCtorEq, Nat.reduceEqDiff, Nat.reduceAdd, Nat.reduceMul, Int.reduceLT, Int.reduceLE, Int.reduceEq, Int.reduceNeg, Int.reduceAdd, Int.reduceToNat, Int.reduceNe, Nat.reduceSub, Int.reducePow, Int.reduceMul, vb0, vb1, vb2, vb3, vb4, vb5, vb6, vb7, l_ref2_Runes_1, k_inv, bytesD_length, bytesD_get, hg, byteD, k_fail]
    simp only [hs, if_false]
    have hl := j_loop b n i 3 2048 hb (by omega) 2 1 (c.toNat - 224) (by omega) (by omega) (by omega) (by omega) (by omega) (by omega)
    simp only [Nat.reduceSub] at hl ⊢
    cases hco : cont ((b.drop (i + 1)).take 2) (c.toNat - 224) with
    | none =>
      simp only [hco, j_inv, j_end, Int.cast_ofNat_Int] at hl
      simp -implicitDefEqProofs (maxSteps := 1000000) (disch := omega) only [↓Int.reduceLT, ↓Int.reduceLE, ↓Int.reduceEq, ↓Nat.reduceEqDiff, Nat.reduceBEq, ↓reduceIte, St.toRS, restrict, initEnv, plainArgs, reduceCtorEq, Nat.reduceEqDiff, Nat.reduceAdd, Nat.reduceMul, Int.reduceLT, Int.reduceLE, Int.reduceEq, Int.reduceNeg, Int.reduceAdd, Int.reduceToNat, Int.reduceNe, Nat.reduceSub, Int.reducePow, Int.reduceMul, vb0, vb1, vb2, vb3, vb4, vb5, vb6, vb7, l_ref2_Runes_1, k_inv, bytesD_length, bytesD_get, hg, byteD, hl, k_fail]
    | some w =>
      simp only [hco, j_inv, j_end, Int.cast_ofNat_Int] at hl
      simp only []
      cases ho : okV 2048 w with
      | true =>
        simp only [okV, decide_eq_true_eq] at ho
        simp only [if_true]
        rcases ho with ⟨o1, o2, o3 | o3⟩ <;> first | (exfalso; omega) | (simp -implicitDefEqProofs (maxSteps := 1000000) (disch := omega) only [↓Int.reduceLT, ↓Int.reduceLE, ↓Int.reduceEq, ↓Nat.reduceEqDiff, Nat.reduceBEq, ↓reduceIte, St.toRS, restrict, initEnv, plainArgs, reduceCtorEq, Nat.reduceEqDiff, Nat.reduceAdd, Nat.reduceMul, Int.reduceLT, Int.reduceLE, Int.reduceEq, Int.reduceNeg, Int.reduceAdd, Int.reduceToNat, Int.reduceNe, Nat.reduceSub, Int.reducePow, Int.reduceMul, vb0, vb1, vb2, vb3, vb4, vb5, vb6, vb7, l_ref2_Runes_1, k_inv, bytesD_length, bytesD_get, hg, byteD, hl])
      | false =>
        simp only [okV, decide_eq_false_iff_not] at ho
        simp only [Bool.false_eq_true, if_false]
        by_cases o1 : w < 2048
        · simp -implicitDefEqProofs (maxSteps := 1000000) (disch := omega) only [↓Int.reduceLT, ↓Int.reduceLE, ↓Int.reduceEq, ↓Nat.reduceEqDiff, Nat.reduceBEq, ↓reduceIte, St.toRS, restrict, initEnv, plainArgs, reduceCtorEq, Nat.reduceEqDiff, Nat.reduceAdd, Nat.reduceMul, Int.reduceLT, Int.reduceLE, Int.reduceEq, Int.reduceNeg, Int.reduceAdd, Int.reduceToNat, Int.reduceNe, Nat.reduceSub, Int.reducePow, Int.reduceMul, vb0, vb1, vb2, vb3, vb4, vb5, vb6, vb7, l_ref2_Runes_1, k_inv, bytesD_length, bytesD_get, hg, byteD, hl, k_fail]
        by_cases o2 : 1114111 < w
        · simp -implicitDefEqProofs (maxSteps := 1000000) (disch := omega) only [↓Int.reduceLT, ↓Int.reduceLE, ↓Int.reduceEq, ↓Nat.reduceEqDiff, Nat.reduceBEq, ↓reduceIte, St.toRS, restrict, initEnv, plainArgs, reduceCtorEq, Nat.reduceEqDiff, Nat.reduceAdd, Nat.reduceMul, Int.reduceLT, Int.reduceLE, Int.reduceEq, Int.reduceNeg, Int.reduceAdd, Int.reduceToNat, Int.reduceNe, Nat.reduceSub, Int.reducePow, Int.reduceMul, vb0, vb1, vb2, vb3, vb4, vb5, vb6, vb7, l_ref2_Runes_1, k_inv, bytesD_length, bytesD_get, hg, byteD, hl, k_fail]
        · simp -implicitDefEqProofs (maxSteps := 1000000) (disch := omega) only [↓Int.reduceLT, ↓Int.reduceLE, ↓Int.reduceEq, ↓Nat.reduceEqDiff, Nat.reduceBEq, ↓reduceIte, St.toRS, restrict, initEnv, plainArgs, reduceCtorEq, Nat.reduceEqDiff, Nat.reduceAdd, Nat.reduceMul, Int.reduceLT, Int.reduceLE, Int.reduceEq, Int.reduceNeg, Int.reduceAdd, Int.reduceToNat, Int.reduceNe, Nat.reduceSub, Int.reducePow, Int.reduceMul, vb0, vb1, vb2, vb3, vb4, vb5, vb6, vb7, l_ref2_Runes_1, k_inv, bytesD_length, bytesD_get, hg, byteD, hl, k_fail]
  · simp only [h128, show ¬ c.toNat < 192 by omega, show ¬ c.toNat < 224 by omega, show ¬ c.toNat < 240 by omega, hz, if_true, if_false, tailV, hlen]
    by_cases hs : b.length - (i + 1) + 1 < 4
    · simp only [hs, if_true]
      simp -implicitDefEqProofs (maxSteps := 1000000) (disch := omega) only [↓Int.reduceLT, ↓Int.reduceLE, ↓Int.reduceEq, ↓Nat.reduceEqDiff, Nat.reduceBEq, ↓reduceIte, St.toRS, restrict, initEnv, plainArgs, reduceCtorEq, Nat.reduceEqDiff, Nat.reduceAdd, Nat.reduceMul, Int.reduceLT, Int.reduceLE, Int.reduceEq, Int.reduceNeg, Int.reduceAdd, Int.reduceToNat, Int.reduceNe, Nat.reduceSub, Int.reducePow, Int.reduceMul, vb0, vb1, vb2, vb3, vb4, vb5, vb6, vb7, l_ref2_Runes_1, k_inv, bytesD_length, bytesD_get, hg, byteD, k_fail]
    simp only [hs, if_false]
    have hl := j_loop b n i 4 65536 hb (by omega) 3 1 (c.toNat - 240) (by omega) (by omega) (by omega) (by omega) (by omega) (by omega)
    simp only [Nat.reduceSub] at hl ⊢
    cases hco : cont ((b.drop (i + 1)).take 3) (c.toNat - 240) with
    | none =>
      simp only [hco, j_inv, j_end, Int.cast_ofNat_Int] at hl
      simp -implicitDefEqProofs (maxSteps := 1000000) (disch := omega) only [↓Int.reduceLT, ↓Int.reduceLE, ↓Int.reduceEq, ↓Nat.reduceEqDiff, Nat.reduceBEq, ↓reduceIte, St.toRS, restrict, initEnv, plainArgs, reduceCtorEq, Nat.reduceEqDiff, Nat.reduceAdd, Nat.reduceMul, Int.reduceLT, Int.reduceLE, Int.reduceEq, Int.reduceNeg, Int.reduceAdd, Int.reduceToNat, Int.reduceNe, Nat.reduceSub, Int.reducePow, Int.reduceMul, vb0, vb1, vb2, vb3, vb4, vb5, vb6, vb7, l_ref2_Runes_1, k_inv, bytesD_length, bytesD_get, hg, byteD, hl, k_fail]
    | some w =>
      simp only [hco, j_inv, j_end, Int.cast_ofNat_Int] at hl
      simp only []
      cases ho : okV 65536 w with
      | true =>
        simp only [okV, decide_eq_true_eq] at ho
        simp only [if_true]
        rcases ho with ⟨o1, o2, o3 | o3⟩ <;> first | (exfalso; omega) | (simp -implicitDefEqProofs (maxSteps := 1000000) (disch := omega) only [↓Int.reduceLT, ↓Int.reduceLE, ↓Int.reduceEq, ↓Nat.reduceEqDiff, Nat.reduceBEq, ↓reduceIte, St.toRS, restrict, initEnv, plainArgs, reduceCtorEq, Nat.reduceEqDiff, Nat.reduceAdd, Nat.reduceMul, Int.reduceLT, Int.reduceLE, Int.reduceEq, Int.reduceNeg, Int.reduceAdd, Int.reduceToNat, Int.reduceNe, Nat.reduceSub, Int.reducePow, Int.reduceMul, vb0, vb1, vb2, vb3, vb4, vb5, vb6, vb7, l_ref2_Runes_1, k_inv, bytesD_length, bytesD_get, hg, byteD, hl])
      | false =>
        simp only [okV, decide_eq_false_iff_not] at ho
        simp only [Bool.false_eq_true, if_false]
        by_cases o1 : w < 65536
        · simp -implicitDefEqProofs (maxSteps := 1000000) (disch := omega) only [↓Int.reduceLT, ↓Int.reduceLE, ↓Int.reduceEq, ↓Nat.reduceEqDiff, Nat.reduceBEq, ↓reduceIte, St.toRS, restrict, initEnv, plainArgs, reduceCtorEq, Nat.reduceEqDiff, Nat.reduceAdd, Nat.reduceMul, Int.reduceLT, Int.reduceLE, Int.reduceEq, Int.reduceNeg, Int.reduceAdd, Int.reduceToNat, Int.reduceNe, Nat.reduceSub, Int.reducePow, Int.reduceMul, vb0, vb1, vb2, vb3, vb4, vb5, vb6, vb7, l_ref2_Runes_1, k_inv, bytesD_length, bytesD_get, hg, byteD, hl, k_fail]
        by_cases o2 : 1114111 < w
        · simp -implicitDefEqProofs (maxSteps := 1000000) (disch := omega) only [↓Int.reduceLT, ↓Int.reduceLE, ↓Int.reduceEq, ↓Nat.reduceEqDiff, Nat.reduceBEq, ↓reduceIte, St.toRS, restrict, initEnv, plainArgs, reduceCtorEq, Nat.reduceEqDiff, Nat.reduceAdd, Nat.reduceMul, Int.reduceLT, Int.reduceLE, Int.reduceEq, Int.reduceNeg, Int.reduceAdd, Int.reduceToNat, Int.reduceNe, Nat.reduceSub, Int.reducePow, Int.reduceMul, vb0, vb1, vb2, vb3, vb4, vb5, vb6, vb7, l_ref2_Runes_1, k_inv, bytesD_length, bytesD_get, hg, byteD, hl, k_fail]
        · simp -implicitDefEqProofs (maxSteps := 1000000) (disch := omega) only [↓Int.reduceLT, ↓Int.reduceLE, ↓Int.reduceEq, ↓Nat.reduceEqDiff, Nat.reduceBEq, ↓reduceIte, St.toRS, restrict, initEnv, plainArgs, reduceCtorEq, Nat.reduceEqDiff, Nat.reduceAdd, Nat.reduceMul, Int.reduceLT, Int.reduceLE, Int.reduceEq, Int.reduceNeg, Int.reduceAdd, Int.reduceToNat, Int.reduceNe, Nat.reduceSub, Int.reducePow, Int.reduceMul, vb0, vb1, vb2, vb3, vb4, vb5, vb6, vb7, l_ref2_Runes_1, k_inv, bytesD_length, bytesD_get, hg, byteD, hl, k_fail]
end Go.Proofs.YtedncpnkbpbchaaDoor.U
