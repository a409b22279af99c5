/-
  unicode/utf8.Valid over data: characters of more bytes than one; what it answers.
-/
import Derived.Test.YtedncpnkbpbchaaDoorChr5
set_option linter.unusedVariables false
set_option linter.unusedSimpArgs false
set_option maxRecDepth 100000
set_option maxHeartbeats 8000000
namespace Go.Proofs.YtedncpnkbpbchaaDoor.U
open Go.Vi

def fz (n : Nat) : Int := firsts.getD n 0
def sz (n : Nat) : Int := if n < 194 then 1 else if n < 224 then 2 else if n < 240 then 3 else if n < 245 then 4 else 1
def szLo (n : Nat) : Nat := if n < 194 then 0 else if n < 245 then loB n else 0
def szHi (n : Nat) : Nat := if n < 194 then 0 else if n < 245 then hiB n else 0
theorem tbl : ∀ n : Fin 256, 128 ≤ n.val → firsts[n.val]? = some (fz n.val) ∧ bitsD .and .u8 (fz n.val) 7 = sz n.val ∧ 0 ≤ (fz n.val).fdiv 16 ∧ (fz n.val).fdiv 16 < 16 ∧
    ((flatPairs accepts).drop (((fz n.val).fdiv 16).toNat * 2)).take 2 = [(szLo n.val : Int), (szHi n.val : Int)] := by decide +kernel
def T0 : D := .agg (firsts.map (D.int .u8))
def T1 : D := .agg ((flatPairs accepts).map (D.int .u8))
theorem glob0 : (M false).glob 3 = some (.agg (firsts.map (D.int .u8))) := rfl
theorem glob1 : (M false).glob 4 = some (.agg ((flatPairs accepts).map (D.int .u8))) := rfl
theorem tab0 (c : UInt8) (h : 128 ≤ c.toNat) : sub (firsts.map (D.int .u8)) c.toNat none = some (.int .u8 (fz c.toNat)) := by
  have := (tbl ⟨c.toNat, c.toNat_lt⟩ h).1
  simp only [sub, List.getElem?_map, this, Option.map_some]
theorem tab1 (c : UInt8) (h : 128 ≤ c.toNat) : sub ((flatPairs accepts).map (D.int .u8)) (((fz c.toNat).fdiv 16).toNat * 2) (some 2) = some (.agg [.int .u8 (szLo c.toNat : Int), .int .u8 (szHi c.toNat : Int)]) := by
  obtain ⟨_, _, h0, h1, h2⟩ := tbl ⟨c.toNat, c.toNat_lt⟩ h
  simp only at h0 h1 h2
  have hl : ((flatPairs accepts).map (D.int .u8)).length = 32 := by rw [List.length_map]; rfl
  simp only [sub, hl]
  rw [if_pos (by omega), ← List.map_drop, ← List.map_take, h2]
  rfl
def v_false : Option (Ex × St) := some (.ret, { env := [(2, .d (.bool false))], bx := [] })
theorem sub_0 {a b : D} : sub [a, b] 0 none = some a := rfl
theorem sub_1 {a b : D} : sub [a, b] 1 none = some b := rfl
theorem sub_2 {a b : D} : sub [a, b] 0 (some 2) = some (.agg [a, b]) := rfl
theorem set_2 {a b c d : D} : setAt [a, b] 0 [c, d] = [c, d] := rfl

theorem chrT_cons (c : UInt8) (r : List UInt8) : (if c.toNat < 128 then some 1
    else if c.toNat < 194 then none
    else if c.toNat < 224 then
      match r with
      | d :: _ => if inB (loB c.toNat) (hiB c.toNat) d then some 2 else none
      | _ => none
    else if c.toNat < 240 then
      match r with
      | d :: e :: _ => if inB (loB c.toNat) (hiB c.toNat) d && conB e then some 3 else none
      | _ => none
    else if c.toNat < 245 then
      match r with
      | d :: e :: f :: _ => if inB (loB c.toNat) (hiB c.toNat) d && conB e && conB f then some 4 else none
      | _ => none
    else none) = chrT (c :: r) := rfl
theorem v_other (c : UInt8) (r : List UInt8) (hm : r.length + 1 ≤ 140737488355328) (hc : 128 ≤ c.toNat) (ex : List (Nat × V)) :
    match chrT (c :: r) with
    | none => X (M false) l_unicode_utf8_Valid_1 (v_st (c :: r) ex) = v_false
    | some k => X (M false) l_unicode_utf8_Valid_1 (v_st (c :: r) ex) = some (.norm, v_st ((c :: r).drop k) []) := by
  have hlt := c.toNat_lt
  have g0 : (bytesD (c :: r))[0]? = some (byteD c) := rfl
  have hl : (bytesD (c :: r)).length = r.length + 1 := by simp [bytesD]
  have tk : (bytesD (c :: r)).take (r.length + 1) = bytesD (c :: r) := by rw [← hl, List.take_length]
  obtain ⟨-, y2, y3, y4, -⟩ := tbl ⟨c.toNat, hlt⟩ hc
  have t0 := tab0 c hc
  have t1 := tab1 c hc
  simp only at y2 y3 y4
  generalize hz : fz c.toNat = z at *
  have y5 : ((z.fdiv 16).toNat : Int) = z.fdiv 16 := Int.toNat_of_nonneg y3
  generalize hq : z.fdiv 16 = q at *
  have bad : sz c.toNat = 1 → X (M false) l_unicode_utf8_Valid_1 (v_st (c :: r) ex) = v_false := by
    intro h1
    rw [h1] at y2
    simp -implicitDefEqProofs (maxSteps := 1000000) (disch := omega) only [↓Int.reduceLT, ↓Int.reduceLE, ↓Int.reduceEq, ↓Nat.reduceEqDiff, Nat.reduceBEq, ↓reduceIte, St.toRS, restrict, initEnv, plainArgs, reduceCtorEq, Nat.reduceEqDiff, Nat.reduceAdd, Nat.reduceMul, Int.reduceLT, Int.reduceLE, Int.reduceEq, Int.reduceNeg, Int.reduceAdd, Int.reduceToNat, Int.reduceNe, Nat.reduceSub, Int.reducePow, Int.reduceMul, vb0, vb1, vb2, vb3, vb4, vb5, vb6, vb7, l_unicode_utf8_Valid_1, v_st, g0, byteD, hl, tk, glob0, glob1, t0, y2, hq, t1, set_2, v_false, e_sh_u8_4]
  by_cases h194 : c.toNat < 194
  · simp only [chrT, show ¬ c.toNat < 128 by omega, h194, if_true, if_false]
    exact bad (by simp [sz, h194])
  by_cases h245 : 245 ≤ c.toNat
  · have e : chrT (c :: r) = none := by simp only [chrT, show ¬ c.toNat < 128 by omega, h194, show ¬ c.toNat < 224 by omega, show ¬ c.toNat < 240 by omega, show ¬ c.toNat < 245 by omega, if_false]
    rw [e]
    exact bad (by simp [sz, h194, show ¬ c.toNat < 224 by omega, show ¬ c.toNat < 240 by omega, show ¬ c.toNat < 245 by omega])
  have eL : szLo c.toNat = loB c.toNat := by simp [szLo, h194, show c.toNat < 245 by omega]
  have eH : szHi c.toNat = hiB c.toNat := by simp [szHi, h194, show c.toNat < 245 by omega]
  rw [eL, eH] at t1
  have fin := chrT_cons c r
  generalize loB c.toNat = lo at *
  generalize hiB c.toNat = hi at *
  by_cases h224 : c.toNat < 224
  · skip
    simp only [show ¬ c.toNat < 128 by omega, h194, show c.toNat < 224 by omega, if_true, if_false] at fin
    have ys : sz c.toNat = 2 := by simp only [sz, h194, show c.toNat < 224 by omega, if_true, if_false]
    rw [ys] at y2
    match r, fin with
    | [], fin => 
      simp only at fin; rw [← fin]
      simp only [List.length_cons, List.length_nil] at hl tk hm
      simp -implicitDefEqProofs (maxSteps := 1000000) (disch := omega) only [↓Int.reduceLT, ↓Int.reduceLE, ↓Int.reduceEq, ↓Nat.reduceEqDiff, Nat.reduceBEq, ↓reduceIte, St.toRS, restrict, initEnv, plainArgs, reduceCtorEq, Nat.reduceEqDiff, Nat.reduceAdd, Nat.reduceMul, Int.reduceLT, Int.reduceLE, Int.reduceEq, Int.reduceNeg, Int.reduceAdd, Int.reduceToNat, Int.reduceNe, Nat.reduceSub, Int.reducePow, Int.reduceMul, vb0, vb1, vb2, vb3, vb4, vb5, vb6, vb7, l_unicode_utf8_Valid_1, v_st, g0, byteD, hl, tk, glob0, glob1, t0, y2, hq, t1, set_2, sub_0, sub_1, sub_2, e_sh_u8_4, v_false]
    | d :: r', fin =>
      simp only at fin; rw [← fin]
      simp only [List.length_cons] at hl tk hm
      have g1 : (bytesD (c :: d :: r'))[1]? = some (byteD d) := rfl
      have l1 := d.toNat_lt
      cases bd : inB lo hi d with
      | false =>
        simp only [Bool.false_and, Bool.and_false, Bool.false_eq_true, if_false]
        simp only [inB, conB, decide_eq_false_iff_not] at bd
        by_cases u1 : d.toNat < lo
        · simp -implicitDefEqProofs (maxSteps := 1000000) (disch := omega) only [↓Int.reduceLT, ↓Int.reduceLE, ↓Int.reduceEq, ↓Nat.reduceEqDiff, Nat.reduceBEq, ↓reduceIte, St.toRS, restrict, initEnv, plainArgs, reduceCtorEq, Nat.reduceEqDiff, Nat.reduceAdd, Nat.reduceMul, Int.reduceLT, Int.reduceLE, Int.reduceEq, Int.reduceNeg, Int.reduceAdd, Int.reduceToNat, Int.reduceNe, Nat.reduceSub, Int.reducePow, Int.reduceMul, vb0, vb1, vb2, vb3, vb4, vb5, vb6, vb7, l_unicode_utf8_Valid_1, v_st, g0, byteD, hl, tk, glob0, glob1, t0, y2, hq, t1, set_2, sub_0, sub_1, sub_2, e_sh_u8_4, g1, v_false]
        · simp -implicitDefEqProofs (maxSteps := 1000000) (disch := omega) only [↓Int.reduceLT, ↓Int.reduceLE, ↓Int.reduceEq, ↓Nat.reduceEqDiff, Nat.reduceBEq, ↓reduceIte, St.toRS, restrict, initEnv, plainArgs, reduceCtorEq, Nat.reduceEqDiff, Nat.reduceAdd, Nat.reduceMul, Int.reduceLT, Int.reduceLE, Int.reduceEq, Int.reduceNeg, Int.reduceAdd, Int.reduceToNat, Int.reduceNe, Nat.reduceSub, Int.reducePow, Int.reduceMul, vb0, vb1, vb2, vb3, vb4, vb5, vb6, vb7, l_unicode_utf8_Valid_1, v_st, g0, byteD, hl, tk, glob0, glob1, t0, y2, hq, t1, set_2, sub_0, sub_1, sub_2, e_sh_u8_4, g1, v_false]
      | true =>
        simp only [inB, conB, decide_eq_true_eq] at bd
        simp only [Bool.and_self, if_true]
        simp -implicitDefEqProofs (maxSteps := 1000000) (disch := omega) only [↓Int.reduceLT, ↓Int.reduceLE, ↓Int.reduceEq, ↓Nat.reduceEqDiff, Nat.reduceBEq, ↓reduceIte, St.toRS, restrict, initEnv, plainArgs, reduceCtorEq, Nat.reduceEqDiff, Nat.reduceAdd, Nat.reduceMul, Int.reduceLT, Int.reduceLE, Int.reduceEq, Int.reduceNeg, Int.reduceAdd, Int.reduceToNat, Int.reduceNe, Nat.reduceSub, Int.reducePow, Int.reduceMul, vb0, vb1, vb2, vb3, vb4, vb5, vb6, vb7, l_unicode_utf8_Valid_1, v_st, g0, byteD, hl, tk, glob0, glob1, t0, y2, hq, t1, set_2, sub_0, sub_1, sub_2, e_sh_u8_4, g1, bytesD_drop]
  by_cases h240 : c.toNat < 240
  · skip
    simp only [show ¬ c.toNat < 128 by omega, h194, show ¬ c.toNat < 224 by omega, show c.toNat < 240 by omega, if_true, if_false] at fin
    have ys : sz c.toNat = 3 := by simp only [sz, h194, show ¬ c.toNat < 224 by omega, show c.toNat < 240 by omega, if_true, if_false]
    rw [ys] at y2
    match r, fin with
    | [], fin => 
      simp only at fin; rw [← fin]
      simp only [List.length_cons, List.length_nil] at hl tk hm
      simp -implicitDefEqProofs (maxSteps := 1000000) (disch := omega) only [↓Int.reduceLT, ↓Int.reduceLE, ↓Int.reduceEq, ↓Nat.reduceEqDiff, Nat.reduceBEq, ↓reduceIte, St.toRS, restrict, initEnv, plainArgs, reduceCtorEq, Nat.reduceEqDiff, Nat.reduceAdd, Nat.reduceMul, Int.reduceLT, Int.reduceLE, Int.reduceEq, Int.reduceNeg, Int.reduceAdd, Int.reduceToNat, Int.reduceNe, Nat.reduceSub, Int.reducePow, Int.reduceMul, vb0, vb1, vb2, vb3, vb4, vb5, vb6, vb7, l_unicode_utf8_Valid_1, v_st, g0, byteD, hl, tk, glob0, glob1, t0, y2, hq, t1, set_2, sub_0, sub_1, sub_2, e_sh_u8_4, v_false]
    | [d], fin => 
      simp only at fin; rw [← fin]
      simp only [List.length_cons, List.length_nil] at hl tk hm
      simp -implicitDefEqProofs (maxSteps := 1000000) (disch := omega) only [↓Int.reduceLT, ↓Int.reduceLE, ↓Int.reduceEq, ↓Nat.reduceEqDiff, Nat.reduceBEq, ↓reduceIte, St.toRS, restrict, initEnv, plainArgs, reduceCtorEq, Nat.reduceEqDiff, Nat.reduceAdd, Nat.reduceMul, Int.reduceLT, Int.reduceLE, Int.reduceEq, Int.reduceNeg, Int.reduceAdd, Int.reduceToNat, Int.reduceNe, Nat.reduceSub, Int.reducePow, Int.reduceMul, vb0, vb1, vb2, vb3, vb4, vb5, vb6, vb7, l_unicode_utf8_Valid_1, v_st, g0, byteD, hl, tk, glob0, glob1, t0, y2, hq, t1, set_2, sub_0, sub_1, sub_2, e_sh_u8_4, v_false]
    | d :: e :: r', fin =>
      simp only at fin; rw [← fin]
      simp only [List.length_cons] at hl tk hm
      have g1 : (bytesD (c :: d :: e :: r'))[1]? = some (byteD d) := rfl
      have l1 := d.toNat_lt
      have g2 : (bytesD (c :: d :: e :: r'))[2]? = some (byteD e) := rfl
      have l2 := e.toNat_lt
      cases bd : inB lo hi d with
      | false =>
        simp only [Bool.false_and, Bool.and_false, Bool.false_eq_true, if_false]
        simp only [inB, conB, decide_eq_false_iff_not] at bd
        by_cases u1 : d.toNat < lo
        · simp -implicitDefEqProofs (maxSteps := 1000000) (disch := omega) only [↓Int.reduceLT, ↓Int.reduceLE, ↓Int.reduceEq, ↓Nat.reduceEqDiff, Nat.reduceBEq, ↓reduceIte, St.toRS, restrict, initEnv, plainArgs, reduceCtorEq, Nat.reduceEqDiff, Nat.reduceAdd, Nat.reduceMul, Int.reduceLT, Int.reduceLE, Int.reduceEq, Int.reduceNeg, Int.reduceAdd, Int.reduceToNat, Int.reduceNe, Nat.reduceSub, Int.reducePow, Int.reduceMul, vb0, vb1, vb2, vb3, vb4, vb5, vb6, vb7, l_unicode_utf8_Valid_1, v_st, g0, byteD, hl, tk, glob0, glob1, t0, y2, hq, t1, set_2, sub_0, sub_1, sub_2, e_sh_u8_4, g1, g2, v_false]
        · simp -implicitDefEqProofs (maxSteps := 1000000) (disch := omega) only [↓Int.reduceLT, ↓Int.reduceLE, ↓Int.reduceEq, ↓Nat.reduceEqDiff, Nat.reduceBEq, ↓reduceIte, St.toRS, restrict, initEnv, plainArgs, reduceCtorEq, Nat.reduceEqDiff, Nat.reduceAdd, Nat.reduceMul, Int.reduceLT, Int.reduceLE, Int.reduceEq, Int.reduceNeg, Int.reduceAdd, Int.reduceToNat, Int.reduceNe, Nat.reduceSub, Int.reducePow, Int.reduceMul, vb0, vb1, vb2, vb3, vb4, vb5, vb6, vb7, l_unicode_utf8_Valid_1, v_st, g0, byteD, hl, tk, glob0, glob1, t0, y2, hq, t1, set_2, sub_0, sub_1, sub_2, e_sh_u8_4, g1, g2, v_false]
      | true =>
        simp only [inB, conB, decide_eq_true_eq] at bd
        cases be : conB e with
        | false =>
          simp only [Bool.false_and, Bool.and_false, Bool.false_eq_true, if_false]
          simp only [inB, conB, decide_eq_false_iff_not] at be
          by_cases u1 : e.toNat < 128
          · simp -implicitDefEqProofs (maxSteps := 1000000) (disch := omega) only [↓Int.reduceLT, ↓Int.reduceLE, ↓Int.reduceEq, ↓Nat.reduceEqDiff, Nat.reduceBEq, ↓reduceIte, St.toRS, restrict, initEnv, plainArgs, reduceCtorEq, Nat.reduceEqDiff, Nat.reduceAdd, Nat.reduceMul, Int.reduceLT, Int.reduceLE, Int.reduceEq, Int.reduceNeg, Int.reduceAdd, Int.reduceToNat, Int.reduceNe, Nat.reduceSub, Int.reducePow, Int.reduceMul, vb0, vb1, vb2, vb3, vb4, vb5, vb6, vb7, l_unicode_utf8_Valid_1, v_st, g0, byteD, hl, tk, glob0, glob1, t0, y2, hq, t1, set_2, sub_0, sub_1, sub_2, e_sh_u8_4, g1, g2, v_false]
          · simp -implicitDefEqProofs (maxSteps := 1000000) (disch := omega) only [↓Int.reduceLT, ↓Int.reduceLE, ↓Int.reduceEq, ↓Nat.reduceEqDiff, Nat.reduceBEq, ↓reduceIte, St.toRS, restrict, initEnv, plainArgs, reduceCtorEq, Nat.reduceEqDiff, Nat.reduceAdd, Nat.reduceMul, Int.reduceLT, Int.reduceLE, Int.reduceEq, Int.reduceNeg, Int.reduceAdd, Int.reduceToNat, Int.reduceNe, Nat.reduceSub, Int.reducePow, Int.reduceMul, vb0, vb1, vb2, vb3, vb4, vb5, vb6, vb7, l_unicode_utf8_Valid_1, v_st, g0, byteD, hl, tk, glob0, glob1, t0, y2, hq, t1, set_2, sub_0, sub_1, sub_2, e_sh_u8_4, g1, g2, v_false]
        | true =>
          simp only [inB, conB, decide_eq_true_eq] at be
          simp only [Bool.and_self, if_true]
          simp -implicitDefEqProofs (maxSteps := 1000000) (disch := omega) only [↓Int.reduceLT, ↓Int.reduceLE, ↓Int.reduceEq, ↓Nat.reduceEqDiff, Nat.reduceBEq, ↓reduceIte, St.toRS, restrict, initEnv, plainArgs, reduceCtorEq, Nat.reduceEqDiff, Nat.reduceAdd, Nat.reduceMul, Int.reduceLT, Int.reduceLE, Int.reduceEq, Int.reduceNeg, Int.reduceAdd, Int.reduceToNat, Int.reduceNe, Nat.reduceSub, Int.reducePow, Int.reduceMul, vb0, vb1, vb2, vb3, vb4, vb5, vb6, vb7, l_unicode_utf8_Valid_1, v_st, g0, byteD, hl, tk, glob0, glob1, t0, y2, hq, t1, set_2, sub_0, sub_1, sub_2, e_sh_u8_4, g1, g2, bytesD_drop]
  simp only [show ¬ c.toNat < 128 by omega, h194, show ¬ c.toNat < 224 by omega, show ¬ c.toNat < 240 by omega, show c.toNat < 245 by omega, if_true, if_false] at fin
  have ys : sz c.toNat = 4 := by simp only [sz, h194, show ¬ c.toNat < 224 by omega, show ¬ c.toNat < 240 by omega, show c.toNat < 245 by omega, if_true, if_false]
  rw [ys] at y2
  match r, fin with
  | [], fin => 
    simp only at fin; rw [← fin]
    simp only [List.length_cons, List.length_nil] at hl tk hm
    simp -implicitDefEqProofs (maxSteps := 1000000) (disch := omega) only [↓Int.reduceLT, ↓Int.reduceLE, ↓Int.reduceEq, ↓Nat.reduceEqDiff, Nat.reduceBEq, ↓reduceIte, St.toRS, restrict, initEnv, plainArgs, reduceCtorEq, Nat.reduceEqDiff, Nat.reduceAdd, Nat.reduceMul, Int.reduceLT, Int.reduceLE, Int.reduceEq, Int.reduceNeg, Int.reduceAdd, Int.reduceToNat, Int.reduceNe, Nat.reduceSub, Int.reducePow, Int.reduceMul, vb0, vb1, vb2, vb3, vb4, vb5, vb6, vb7, l_unicode_utf8_Valid_1, v_st, g0, byteD, hl, tk, glob0, glob1, t0, y2, hq, t1, set_2, sub_0, sub_1, sub_2, e_sh_u8_4, v_false]
  | [d], fin => 
    simp only at fin; rw [← fin]
    simp only [List.length_cons, List.length_nil] at hl tk hm
    simp -implicitDefEqProofs (maxSteps := 1000000) (disch := omega) only [↓Int.reduceLT, ↓Int.reduceLE, ↓Int.reduceEq, ↓Nat.reduceEqDiff, Nat.reduceBEq, ↓reduceIte, St.toRS, restrict, initEnv, plainArgs, reduceCtorEq, Nat.reduceEqDiff, Nat.reduceAdd, Nat.reduceMul, Int.reduceLT, Int.reduceLE, Int.reduceEq, Int.reduceNeg, Int.reduceAdd, Int.reduceToNat, Int.reduceNe, Nat.reduceSub, Int.reducePow, Int.reduceMul, vb0, vb1, vb2, vb3, vb4, vb5, vb6, vb7, l_unicode_utf8_Valid_1, v_st, g0, byteD, hl, tk, glob0, glob1, t0, y2, hq, t1, set_2, sub_0, sub_1, sub_2, e_sh_u8_4, v_false]
  | [d, e], fin => 
    simp only at fin; rw [← fin]
    simp only [List.length_cons, List.length_nil] at hl tk hm
    simp -implicitDefEqProofs (maxSteps := 1000000) (disch := omega) only [↓Int.reduceLT, ↓Int.reduceLE, ↓Int.reduceEq, ↓Nat.reduceEqDiff, Nat.reduceBEq, ↓reduceIte, St.toRS, restrict, initEnv, plainArgs, reduceCtorEq, Nat.reduceEqDiff, Nat.reduceAdd, Nat.reduceMul, Int.reduceLT, Int.reduceLE, Int.reduceEq, Int.reduceNeg, Int.reduceAdd, Int.reduceToNat, Int.reduceNe, Nat.reduceSub, Int.reducePow, Int.reduceMul, vb0, vb1, vb2, vb3, vb4, vb5, vb6, vb7, l_unicode_utf8_Valid_1, v_st, g0, byteD, hl, tk, glob0, glob1, t0, y2, hq, t1, set_2, sub_0, sub_1, sub_2, e_sh_u8_4, v_false]
  | d :: e :: f :: r', fin =>
    simp only at fin; rw [← fin]
    simp only [List.length_cons] at hl tk hm
    have g1 : (bytesD (c :: d :: e :: f :: r'))[1]? = some (byteD d) := rfl
    have l1 := d.toNat_lt
    have g2 : (bytesD (c :: d :: e :: f :: r'))[2]? = some (byteD e) := rfl
    have l2 := e.toNat_lt
    have g3 : (bytesD (c :: d :: e :: f :: r'))[3]? = some (byteD f) := rfl
    have l3 := f.toNat_lt
    cases bd : inB lo hi d with
    | false =>
      simp only [Bool.false_and, Bool.and_false, Bool.false_eq_true, if_false]
      simp only [inB, conB, decide_eq_false_iff_not] at bd
      by_cases u1 : d.toNat < lo
      · simp -implicitDefEqProofs (maxSteps := 1000000) (disch := omega) only [↓Int.reduceLT, ↓Int.reduceLE, ↓Int.reduceEq, ↓Nat.reduceEqDiff, Nat.reduceBEq, ↓reduceIte, St.toRS, restrict, initEnv, plainArgs, reduceCtorEq, Nat.reduceEqDiff, Nat.reduceAdd, Nat.reduceMul, Int.reduceLT, Int.reduceLE, Int.reduceEq, Int.reduceNeg, Int.reduceAdd, Int.reduceToNat, Int.reduceNe, Nat.reduceSub, Int.reducePow, Int.reduceMul, vb0, vb1, vb2, vb3, vb4, vb5, vb6, vb7, l_unicode_utf8_Valid_1, v_st, g0, byteD, hl, tk, glob0, glob1, t0, y2, hq, t1, set_2, sub_0, sub_1, sub_2, e_sh_u8_4, g1, g2, g3, v_false]
      · simp -implicitDefEqProofs (maxSteps := 1000000) (disch := omega) only [↓Int.reduceLT, ↓Int.reduceLE, ↓Int.reduceEq, ↓Nat.reduceEqDiff, Nat.reduceBEq, ↓reduceIte, St.toRS, restrict, initEnv, plainArgs, reduceCtorEq, Nat.reduceEqDiff, Nat.reduceAdd, Nat.reduceMul, Int.reduceLT, Int.reduceLE, Int.reduceEq, Int.reduceNeg, Int.reduceAdd, Int.reduceToNat, Int.reduceNe, Nat.reduceSub, Int.reducePow, Int.reduceMul, vb0, vb1, vb2, vb3, vb4, vb5, vb6, vb7, l_unicode_utf8_Valid_1, v_st, g0, byteD, hl, tk, glob0, glob1, t0, y2, hq, t1, set_2, sub_0, sub_1, sub_2, e_sh_u8_4, g1, g2, g3, v_false]
    | true =>
      simp only [inB, conB, decide_eq_true_eq] at bd
      cases be : conB e with
      | false =>
        simp only [Bool.false_and, Bool.and_false, Bool.false_eq_true, if_false]
        simp only [inB, conB, decide_eq_false_iff_not] at be
        by_cases u1 : e.toNat < 128
        · simp -implicitDefEqProofs (maxSteps := 1000000) (disch := omega) only [↓Int.reduceLT, ↓Int.reduceLE, ↓Int.reduceEq, ↓Nat.reduceEqDiff, Nat.reduceBEq, ↓reduceIte, St.toRS, restrict, initEnv, plainArgs, reduceCtorEq, Nat.reduceEqDiff, Nat.reduceAdd, Nat.reduceMul, Int.reduceLT, Int.reduceLE, Int.reduceEq, Int.reduceNeg, Int.reduceAdd, Int.reduceToNat, Int.reduceNe, Nat.reduceSub, Int.reducePow, Int.reduceMul, vb0, vb1, vb2, vb3, vb4, vb5, vb6, vb7, l_unicode_utf8_Valid_1, v_st, g0, byteD, hl, tk, glob0, glob1, t0, y2, hq, t1, set_2, sub_0, sub_1, sub_2, e_sh_u8_4, g1, g2, g3, v_false]
        · simp -implicitDefEqProofs (maxSteps := 1000000) (disch := omega) only [↓Int.reduceLT, ↓Int.reduceLE, ↓Int.reduceEq, ↓Nat.reduceEqDiff, Nat.reduceBEq, ↓reduceIte, St.toRS, restrict, initEnv, plainArgs, reduceCtorEq, Nat.reduceEqDiff, Nat.reduceAdd, Nat.reduceMul, Int.reduceLT, Int.reduceLE, Int.reduceEq, Int.reduceNeg, Int.reduceAdd, Int.reduceToNat, Int.reduceNe, Nat.reduceSub, Int.reducePow, Int.reduceMul, vb0, vb1, vb2, vb3, vb4, vb5, vb6, vb7, l_unicode_utf8_Valid_1, v_st, g0, byteD, hl, tk, glob0, glob1, t0, y2, hq, t1, set_2, sub_0, sub_1, sub_2, e_sh_u8_4, g1, g2, g3, v_false]
      | true =>
        simp only [inB, conB, decide_eq_true_eq] at be
        cases bf : conB f with
        | false =>
          simp only [Bool.false_and, Bool.and_false, Bool.false_eq_true, if_false]
          simp only [inB, conB, decide_eq_false_iff_not] at bf
          by_cases u1 : f.toNat < 128
          · simp -implicitDefEqProofs (maxSteps := 1000000) (disch := omega) only [↓Int.reduceLT, ↓Int.reduceLE, ↓Int.reduceEq, ↓Nat.reduceEqDiff, Nat.reduceBEq, ↓reduceIte, St.toRS, restrict, initEnv, plainArgs, reduceCtorEq, Nat.reduceEqDiff, Nat.reduceAdd, Nat.reduceMul, Int.reduceLT, Int.reduceLE, Int.reduceEq, Int.reduceNeg, Int.reduceAdd, Int.reduceToNat, Int.reduceNe, Nat.reduceSub, Int.reducePow, Int.reduceMul, vb0, vb1, vb2, vb3, vb4, vb5, vb6, vb7, l_unicode_utf8_Valid_1, v_st, g0, byteD, hl, tk, glob0, glob1, t0, y2, hq, t1, set_2, sub_0, sub_1, sub_2, e_sh_u8_4, g1, g2, g3, v_false]
          · simp -implicitDefEqProofs (maxSteps := 1000000) (disch := omega) only [↓Int.reduceLT, ↓Int.reduceLE, ↓Int.reduceEq, ↓Nat.reduceEqDiff, Nat.reduceBEq, ↓reduceIte, St.toRS, restrict, initEnv, plainArgs, reduceCtorEq, Nat.reduceEqDiff, Nat.reduceAdd, Nat.reduceMul, Int.reduceLT, Int.reduceLE, Int.reduceEq, Int.reduceNeg, Int.reduceAdd, Int.reduceToNat, Int.reduceNe, Nat.reduceSub, Int.reducePow, Int.reduceMul, vb0, vb1, vb2, vb3, vb4, vb5, vb6, vb7, l_unicode_utf8_Valid_1, v_st, g0, byteD, hl, tk, glob0, glob1, t0, y2, hq, t1, set_2, sub_0, sub_1, sub_2, e_sh_u8_4, g1, g2, g3, v_false]
        | true =>
          simp only [inB, conB, decide_eq_true_eq] at bf
          simp only [Bool.and_self, if_true]
          simp -implicitDefEqProofs (maxSteps := 1000000) (disch := omega) only [↓Int.reduceLT, ↓Int.reduceLE, ↓Int.reduceEq, ↓Nat.reduceEqDiff, Nat.reduceBEq, ↓reduceIte, St.toRS, restrict, initEnv, plainArgs, reduceCtorEq, Nat.reduceEqDiff, Nat.reduceAdd, Nat.reduceMul, Int.reduceLT, Int.reduceLE, Int.reduceEq, Int.reduceNeg, Int.reduceAdd, Int.reduceToNat, Int.reduceNe, Nat.reduceSub, Int.reducePow, Int.reduceMul, vb0, vb1, vb2, vb3, vb4, vb5, vb6, vb7, l_unicode_utf8_Valid_1, v_st, g0, byteD, hl, tk, glob0, glob1, t0, y2, hq, t1, set_2, sub_0, sub_1, sub_2, e_sh_u8_4, g1, g2, g3, bytesD_drop]
end Go.Proofs.YtedncpnkbpbchaaDoor.U
