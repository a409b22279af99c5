/-
  What the reference's Hex and Unquote answer: over data.
-/
import Derived.Test.YtladdhfkmnhmfaaUnq2
set_option linter.unusedVariables false
set_option linter.unusedSimpArgs false
set_option maxRecDepth 100000
set_option maxHeartbeats 8000000
namespace Go.Proofs.Ytladdhfkmnhmfaa
open Go.Vi
variable {m : Int}

theorem hex_spec (n : Nat) (hn : n < 256) : C (M m) n_ref2_Hex [.d (.int .u8 n)] = some (.d (.int .i64 (hexI n))) := by
  rw [c_fn (sf := f_ref2_Hex) rfl rfl ⟨rfl, rfl⟩]
  have w0 : IntKind.i64.wrap (n : Int) = n := wrap_i64 (by omega) (by omega)
  by_cases a : 48 ≤ n ∧ n ≤ 57
  · have f1 : (48 : Int) ≤ n := by omega
    have f2 : (n : Int) ≤ 57 := by omega
    have e : hexI n = n - 48 := by simp [hexI, a]
    have w2 : IntKind.i64.wrap ((n : Int) - 48) = n - 48 := wrap_i64 (by omega) (by omega)
    simp -implicitDefEqProofs (maxSteps := 1000000) (disch := omega) only [↓Int.reduceLT, ↓Int.reduceLE, ↓Int.reduceEq, ↓Nat.reduceEqDiff, Nat.reduceBEq, ↓reduceIte, St.toRS, restrict, initEnv, plainArgs, reduceCtorEq, Nat.reduceEqDiff, Nat.reduceAdd, Nat.reduceMul, Int.reduceLT, Int.reduceLE, Int.reduceEq, Int.reduceNeg, Int.reduceAdd, Int.reduceToNat, Int.reduceNe, Nat.reduceSub, Int.reducePow, Int.reduceMul, vb0, vb1, vb2, vb3, vb4, vb5, vb6, vb7, f_ref2_Hex, f1, f2, w0, w2, e]
  by_cases b : 97 ≤ n ∧ n ≤ 102
  · have f1 : (48 : Int) ≤ n := by omega
    have f2 : ¬ (n : Int) ≤ 57 := by omega
    have f3 : (97 : Int) ≤ n := by omega
    have f4 : (n : Int) ≤ 102 := by omega
    have e : hexI n = n - 87 := by simp [hexI, a, b]
    have w2 : IntKind.i64.wrap ((n : Int) - 87) = n - 87 := wrap_i64 (by omega) (by omega)
    simp -implicitDefEqProofs (maxSteps := 1000000) (disch := omega) only [↓Int.reduceLT, ↓Int.reduceLE, ↓Int.reduceEq, ↓Nat.reduceEqDiff, Nat.reduceBEq, ↓reduceIte, St.toRS, restrict, initEnv, plainArgs, reduceCtorEq, Nat.reduceEqDiff, Nat.reduceAdd, Nat.reduceMul, Int.reduceLT, Int.reduceLE, Int.reduceEq, Int.reduceNeg, Int.reduceAdd, Int.reduceToNat, Int.reduceNe, Nat.reduceSub, Int.reducePow, Int.reduceMul, vb0, vb1, vb2, vb3, vb4, vb5, vb6, vb7, f_ref2_Hex, f1, f2, f3, f4, w0, w2, e]
  by_cases c : 65 ≤ n ∧ n ≤ 70
  · have f1 : (48 : Int) ≤ n := by omega
    have f2 : ¬ (n : Int) ≤ 57 := by omega
    have f3 : ¬ (97 : Int) ≤ n := by omega
    have f5 : (65 : Int) ≤ n := by omega
    have f6 : (n : Int) ≤ 70 := by omega
    have e : hexI n = n - 55 := by simp [hexI, a, b, c]
    have w2 : IntKind.i64.wrap ((n : Int) - 55) = n - 55 := wrap_i64 (by omega) (by omega)
    simp -implicitDefEqProofs (maxSteps := 1000000) (disch := omega) only [↓Int.reduceLT, ↓Int.reduceLE, ↓Int.reduceEq, ↓Nat.reduceEqDiff, Nat.reduceBEq, ↓reduceIte, St.toRS, restrict, initEnv, plainArgs, reduceCtorEq, Nat.reduceEqDiff, Nat.reduceAdd, Nat.reduceMul, Int.reduceLT, Int.reduceLE, Int.reduceEq, Int.reduceNeg, Int.reduceAdd, Int.reduceToNat, Int.reduceNe, Nat.reduceSub, Int.reducePow, Int.reduceMul, vb0, vb1, vb2, vb3, vb4, vb5, vb6, vb7, f_ref2_Hex, f1, f2, f3, f5, f6, w0, w2, e]
  have e : hexI n = -1 := by simp [hexI, a, b, c]
  by_cases x1 : (48 : Int) ≤ n
  · have y1 : ¬ (n : Int) ≤ 57 := by omega
    by_cases x2 : (97 : Int) ≤ n
    · have y2 : ¬ (n : Int) ≤ 102 := by omega
      have x3 : (65 : Int) ≤ n := by omega
      have y3 : ¬ (n : Int) ≤ 70 := by omega
      simp -implicitDefEqProofs (maxSteps := 1000000) (disch := omega) only [↓Int.reduceLT, ↓Int.reduceLE, ↓Int.reduceEq, ↓Nat.reduceEqDiff, Nat.reduceBEq, ↓reduceIte, St.toRS, restrict, initEnv, plainArgs, reduceCtorEq, Nat.reduceEqDiff, Nat.reduceAdd, Nat.reduceMul, Int.reduceLT, Int.reduceLE, Int.reduceEq, Int.reduceNeg, Int.reduceAdd, Int.reduceToNat, Int.reduceNe, Nat.reduceSub, Int.reducePow, Int.reduceMul, vb0, vb1, vb2, vb3, vb4, vb5, vb6, vb7, f_ref2_Hex, x1, y1, x2, y2, x3, y3, e]
    · by_cases x3 : (65 : Int) ≤ n
      · have y3 : ¬ (n : Int) ≤ 70 := by omega
        simp -implicitDefEqProofs (maxSteps := 1000000) (disch := omega) only [↓Int.reduceLT, ↓Int.reduceLE, ↓Int.reduceEq, ↓Nat.reduceEqDiff, Nat.reduceBEq, ↓reduceIte, St.toRS, restrict, initEnv, plainArgs, reduceCtorEq, Nat.reduceEqDiff, Nat.reduceAdd, Nat.reduceMul, Int.reduceLT, Int.reduceLE, Int.reduceEq, Int.reduceNeg, Int.reduceAdd, Int.reduceToNat, Int.reduceNe, Nat.reduceSub, Int.reducePow, Int.reduceMul, vb0, vb1, vb2, vb3, vb4, vb5, vb6, vb7, f_ref2_Hex, x1, y1, x2, x3, y3, e]
      · simp -implicitDefEqProofs (maxSteps := 1000000) (disch := omega) only [↓Int.reduceLT, ↓Int.reduceLE, ↓Int.reduceEq, ↓Nat.reduceEqDiff, Nat.reduceBEq, ↓reduceIte, St.toRS, restrict, initEnv, plainArgs, reduceCtorEq, Nat.reduceEqDiff, Nat.reduceAdd, Nat.reduceMul, Int.reduceLT, Int.reduceLE, Int.reduceEq, Int.reduceNeg, Int.reduceAdd, Int.reduceToNat, Int.reduceNe, Nat.reduceSub, Int.reducePow, Int.reduceMul, vb0, vb1, vb2, vb3, vb4, vb5, vb6, vb7, f_ref2_Hex, x1, y1, x2, x3, e]
  · have x2 : ¬ (97 : Int) ≤ n := by omega
    have x3 : ¬ (65 : Int) ≤ n := by omega
    simp -implicitDefEqProofs (maxSteps := 1000000) (disch := omega) only [↓Int.reduceLT, ↓Int.reduceLE, ↓Int.reduceEq, ↓Nat.reduceEqDiff, Nat.reduceBEq, ↓reduceIte, St.toRS, restrict, initEnv, plainArgs, reduceCtorEq, Nat.reduceEqDiff, Nat.reduceAdd, Nat.reduceMul, Int.reduceLT, Int.reduceLE, Int.reduceEq, Int.reduceNeg, Int.reduceAdd, Int.reduceToNat, Int.reduceNe, Nat.reduceSub, Int.reducePow, Int.reduceMul, vb0, vb1, vb2, vb3, vb4, vb5, vb6, vb7, f_ref2_Hex, x1, x2, x3, e]

def v_inv (t out : List UInt8) (e i : Nat) : St := { env := [(0, .d (.str t)), (4, .own 1 (bytesD out)), (5, .d (.int .i64 e)), (6, .d (.int .i64 i))], bx := [] }
def v_fail : Option (Ex × St) := some (.ret, { env := [(2, .own 1 []), (3, .d (.bool false))], bx := [] })

theorem get_take (t : List UInt8) (e i : Nat) (h : i < e) : (t.take e)[i]? = t[i]? := by simp [List.getElem?_take, h]

theorem v_round (t s out : List UInt8) (e i : Nat) (ht : t.length ≤ 140737488355327) (hte : s = t.take e) (he : e ≤ t.length) (hsl : s.length = e) (ho : out.length ≤ 140737488355327) (hi : i < s.length) :
    X (M m) l_ref2_Unquote_1 (v_inv t out e i) = match uqStep (s.drop i) with
      | none => v_fail
      | some (b, k) => some (.norm, v_inv t (out ++ [b]) e (i + k)) := by
  have hib : ((i : Int) < e) := by omega
  have hg : t[i]? = some s[i] := by
    rw [← get_take t e _ (by omega), ← hte]; simp [hi]
  have hdrop : s.drop i = s[i] :: s.drop (i + 1) := List.drop_eq_getElem_cons hi
  have w1 : IntKind.i64.wrap ((i : Int) + 1) = ((i + 1 : Nat) : Int) := by rw [wrap_i64 (by omega) (by omega)]; omega
  have w2 : IntKind.i64.wrap (((i + 1 : Nat) : Int) + 1) = ((i + 2 : Nat) : Int) := by rw [wrap_i64 (by omega) (by omega)]; omega
  have w3 : IntKind.i64.wrap (((i + 1 : Nat) : Int) + 2) = ((i + 3 : Nat) : Int) := by rw [wrap_i64 (by omega) (by omega)]; omega
  have w4 : IntKind.i64.wrap (((i + 3 : Nat) : Int) + 1) = ((i + 4 : Nat) : Int) := by rw [wrap_i64 (by omega) (by omega)]; omega
  have o1 : out.length + 1 ≤ 140737488355328 := by omega
  rw [hdrop]
  generalize hc : s[i] = c at hg ⊢
  have hlt : c.toNat < 256 := c.toNat_lt
  by_cases h34 : c.toNat = 34
  · have f1 : ((c.toNat : Int) = 34) := by omega
    have hq : uqStep (c :: s.drop (i + 1)) = none := by simp [uqStep, h34]
    rw [hq]
    simp -implicitDefEqProofs (maxSteps := 1000000) (disch := omega) only [↓Int.reduceLT, ↓Int.reduceLE, ↓Int.reduceEq, ↓Nat.reduceEqDiff, Nat.reduceBEq, ↓reduceIte, St.toRS, restrict, initEnv, plainArgs, reduceCtorEq, Nat.reduceEqDiff, Nat.reduceAdd, Nat.reduceMul, Int.reduceLT, Int.reduceLE, Int.reduceEq, Int.reduceNeg, Int.reduceAdd, Int.reduceToNat, Int.reduceNe, Nat.reduceSub, Int.reducePow, Int.reduceMul, vb0, vb1, vb2, vb3, vb4, vb5, vb6, vb7, l_ref2_Unquote_1, v_inv, hib, hg, f1, v_fail]
  by_cases h10 : c.toNat = 10
  · have f1 : ((c.toNat : Int) = 10) := by omega
    have hq : uqStep (c :: s.drop (i + 1)) = none := by simp [uqStep, h10]
    rw [hq]
    simp -implicitDefEqProofs (maxSteps := 1000000) (disch := omega) only [↓Int.reduceLT, ↓Int.reduceLE, ↓Int.reduceEq, ↓Nat.reduceEqDiff, Nat.reduceBEq, ↓reduceIte, St.toRS, restrict, initEnv, plainArgs, reduceCtorEq, Nat.reduceEqDiff, Nat.reduceAdd, Nat.reduceMul, Int.reduceLT, Int.reduceLE, Int.reduceEq, Int.reduceNeg, Int.reduceAdd, Int.reduceToNat, Int.reduceNe, Nat.reduceSub, Int.reducePow, Int.reduceMul, vb0, vb1, vb2, vb3, vb4, vb5, vb6, vb7, l_ref2_Unquote_1, v_inv, hib, hg, f1, v_fail]
  have g1 : ¬ ((c.toNat : Int) = 34) := by omega
  have g2 : ¬ ((c.toNat : Int) = 10) := by omega
  by_cases h92 : c.toNat = 92
  · have g3 : ((c.toNat : Int) = 92) := by omega
    by_cases hl : i + 1 = s.length
    · have f1 : (e : Int) ≤ ((i + 1 : Nat) : Int) := by omega
      have hq : uqStep (c :: s.drop (i + 1)) = none := by
        rw [hl, List.drop_length]
        simp [uqStep, h92]
      rw [hq]
      simp -implicitDefEqProofs (maxSteps := 1000000) (disch := omega) only [↓Int.reduceLT, ↓Int.reduceLE, ↓Int.reduceEq, ↓Nat.reduceEqDiff, Nat.reduceBEq, ↓reduceIte, St.toRS, restrict, initEnv, plainArgs, reduceCtorEq, Nat.reduceEqDiff, Nat.reduceAdd, Nat.reduceMul, Int.reduceLT, Int.reduceLE, Int.reduceEq, Int.reduceNeg, Int.reduceAdd, Int.reduceToNat, Int.reduceNe, Nat.reduceSub, Int.reducePow, Int.reduceMul, vb0, vb1, vb2, vb3, vb4, vb5, vb6, vb7, l_ref2_Unquote_1, v_inv, hib, hg, g1, g2, g3, w1, f1, v_fail]
    have f1 : ¬ (e : Int) ≤ ((i + 1 : Nat) : Int) := by omega
    have hi1 : i + 1 < s.length := by omega
    have hg1 : t[i + 1]? = some s[i + 1] := by
      rw [← get_take t e _ (by omega), ← hte]; simp [hi1]
    have hdrop1 : s.drop (i + 1) = s[i + 1] :: s.drop (i + 2) := List.drop_eq_getElem_cons hi1
    rw [hdrop1]
    generalize hd : s[i + 1] = d at hg1 ⊢
    have hdlt : d.toNat < 256 := d.toNat_lt
    by_cases d34 : d.toNat = 34
    · have k1 : ((d.toNat : Int) = 34) := by omega
      have hq : uqStep (c :: d :: s.drop (i + 2)) = some (d, 2) := by simp [uqStep, h92, d34]
      rw [hq]
      simp -implicitDefEqProofs (maxSteps := 1000000) (disch := omega) only [↓Int.reduceLT, ↓Int.reduceLE, ↓Int.reduceEq, ↓Nat.reduceEqDiff, Nat.reduceBEq, ↓reduceIte, St.toRS, restrict, initEnv, plainArgs, reduceCtorEq, Nat.reduceEqDiff, Nat.reduceAdd, Nat.reduceMul, Int.reduceLT, Int.reduceLE, Int.reduceEq, Int.reduceNeg, Int.reduceAdd, Int.reduceToNat, Int.reduceNe, Nat.reduceSub, Int.reducePow, Int.reduceMul, vb0, vb1, vb2, vb3, vb4, vb5, vb6, vb7, l_ref2_Unquote_1, v_inv, hib, hg, g1, g2, g3, w1, f1, hg1, k1, w2, o1, bytesD_length, bytesD_append, bytesD_cons, bytesD_nil, byteD]
    by_cases d92 : d.toNat = 92
    · have k1 : ((d.toNat : Int) = 92) := by omega
      have hq : uqStep (c :: d :: s.drop (i + 2)) = some (d, 2) := by simp [uqStep, h92, d92]
      rw [hq]
      simp -implicitDefEqProofs (maxSteps := 1000000) (disch := omega) only [↓Int.reduceLT, ↓Int.reduceLE, ↓Int.reduceEq, ↓Nat.reduceEqDiff, Nat.reduceBEq, ↓reduceIte, St.toRS, restrict, initEnv, plainArgs, reduceCtorEq, Nat.reduceEqDiff, Nat.reduceAdd, Nat.reduceMul, Int.reduceLT, Int.reduceLE, Int.reduceEq, Int.reduceNeg, Int.reduceAdd, Int.reduceToNat, Int.reduceNe, Nat.reduceSub, Int.reducePow, Int.reduceMul, vb0, vb1, vb2, vb3, vb4, vb5, vb6, vb7, l_ref2_Unquote_1, v_inv, hib, hg, g1, g2, g3, w1, f1, hg1, k1, w2, o1, bytesD_length, bytesD_append, bytesD_cons, bytesD_nil, byteD]
    have m1 : ¬ ((d.toNat : Int) = 34) := by omega
    have m2 : ¬ ((d.toNat : Int) = 92) := by omega
    by_cases d110 : d.toNat = 110
    · have k1 : ((d.toNat : Int) = 110) := by omega
      have hq : uqStep (c :: d :: s.drop (i + 2)) = some (10, 2) := by simp [uqStep, h92, d110]
      rw [hq]
      simp -implicitDefEqProofs (maxSteps := 1000000) (disch := omega) only [↓Int.reduceLT, ↓Int.reduceLE, ↓Int.reduceEq, ↓Nat.reduceEqDiff, Nat.reduceBEq, ↓reduceIte, St.toRS, restrict, initEnv, plainArgs, reduceCtorEq, Nat.reduceEqDiff, Nat.reduceAdd, Nat.reduceMul, Int.reduceLT, Int.reduceLE, Int.reduceEq, Int.reduceNeg, Int.reduceAdd, Int.reduceToNat, Int.reduceNe, Nat.reduceSub, Int.reducePow, Int.reduceMul, vb0, vb1, vb2, vb3, vb4, vb5, vb6, vb7, l_ref2_Unquote_1, v_inv, hib, hg, g1, g2, g3, w1, f1, hg1, k1, m1, m2, w2, o1, bytesD_length, bytesD_append, bytesD_cons, bytesD_nil, byteD]
      rfl
    by_cases d116 : d.toNat = 116
    · have k1 : ((d.toNat : Int) = 116) := by omega
      have hq : uqStep (c :: d :: s.drop (i + 2)) = some (9, 2) := by simp [uqStep, h92, d116]
      rw [hq]
      simp -implicitDefEqProofs (maxSteps := 1000000) (disch := omega) only [↓Int.reduceLT, ↓Int.reduceLE, ↓Int.reduceEq, ↓Nat.reduceEqDiff, Nat.reduceBEq, ↓reduceIte, St.toRS, restrict, initEnv, plainArgs, reduceCtorEq, Nat.reduceEqDiff, Nat.reduceAdd, Nat.reduceMul, Int.reduceLT, Int.reduceLE, Int.reduceEq, Int.reduceNeg, Int.reduceAdd, Int.reduceToNat, Int.reduceNe, Nat.reduceSub, Int.reducePow, Int.reduceMul, vb0, vb1, vb2, vb3, vb4, vb5, vb6, vb7, l_ref2_Unquote_1, v_inv, hib, hg, g1, g2, g3, w1, f1, hg1, k1, m1, m2, w2, o1, bytesD_length, bytesD_append, bytesD_cons, bytesD_nil, byteD]
      rfl
    by_cases d114 : d.toNat = 114
    · have k1 : ((d.toNat : Int) = 114) := by omega
      have hq : uqStep (c :: d :: s.drop (i + 2)) = some (13, 2) := by simp [uqStep, h92, d114]
      rw [hq]
      simp -implicitDefEqProofs (maxSteps := 1000000) (disch := omega) only [↓Int.reduceLT, ↓Int.reduceLE, ↓Int.reduceEq, ↓Nat.reduceEqDiff, Nat.reduceBEq, ↓reduceIte, St.toRS, restrict, initEnv, plainArgs, reduceCtorEq, Nat.reduceEqDiff, Nat.reduceAdd, Nat.reduceMul, Int.reduceLT, Int.reduceLE, Int.reduceEq, Int.reduceNeg, Int.reduceAdd, Int.reduceToNat, Int.reduceNe, Nat.reduceSub, Int.reducePow, Int.reduceMul, vb0, vb1, vb2, vb3, vb4, vb5, vb6, vb7, l_ref2_Unquote_1, v_inv, hib, hg, g1, g2, g3, w1, f1, hg1, k1, m1, m2, w2, o1, bytesD_length, bytesD_append, bytesD_cons, bytesD_nil, byteD]
      rfl
    have m3 : ¬ ((d.toNat : Int) = 110) := by omega
    have m4 : ¬ ((d.toNat : Int) = 116) := by omega
    have m5 : ¬ ((d.toNat : Int) = 114) := by omega
    by_cases d120 : d.toNat = 120
    · have k1 : ((d.toNat : Int) = 120) := by omega
      have ws : (0 : Int) ≤ 1 := by omega
      by_cases hl3 : s.length < i + 4
      · have k2 : (e : Int) ≤ ((i + 3 : Nat) : Int) := by omega
        have hq : uqStep (c :: d :: s.drop (i + 2)) = none := by
          have hlen : (s.drop (i + 2)).length < 2 := by simp; omega
          match hx : s.drop (i + 2), hlen with
          | [], _ => simp [uqStep, h92, d120]
          | [x], _ => simp [uqStep, h92, d120]
        rw [hq]
        simp -implicitDefEqProofs (maxSteps := 1000000) (disch := omega) only [↓Int.reduceLT, ↓Int.reduceLE, ↓Int.reduceEq, ↓Nat.reduceEqDiff, Nat.reduceBEq, ↓reduceIte, St.toRS, restrict, initEnv, plainArgs, reduceCtorEq, Nat.reduceEqDiff, Nat.reduceAdd, Nat.reduceMul, Int.reduceLT, Int.reduceLE, Int.reduceEq, Int.reduceNeg, Int.reduceAdd, Int.reduceToNat, Int.reduceNe, Nat.reduceSub, Int.reducePow, Int.reduceMul, vb0, vb1, vb2, vb3, vb4, vb5, vb6, vb7, l_ref2_Unquote_1, v_inv, hib, hg, g1, g2, g3, w1, f1, hg1, k1, m1, m2, m3, m4, m5, w3, k2, v_fail]
      have k2 : ¬ (e : Int) ≤ ((i + 3 : Nat) : Int) := by omega
      have hi2 : i + 2 < s.length := by omega
      have hi3 : i + 3 < s.length := by omega
      have hg2 : t[i + 2]? = some s[i + 2] := by
        rw [← get_take t e _ (by omega), ← hte]; simp [hi2]
      have hg3 : t[i + 3]? = some s[i + 3] := by
        rw [← get_take t e _ (by omega), ← hte]; simp [hi3]
      have hdrop2 : s.drop (i + 2) = s[i + 2] :: s[i + 3] :: s.drop (i + 4) := by
        rw [List.drop_eq_getElem_cons hi2, List.drop_eq_getElem_cons hi3]
      rw [hdrop2]
      generalize hx : s[i + 2] = x at hg2 ⊢
      generalize hy : s[i + 3] = y at hg3 ⊢
      have sx := hex_spec (m := m) x.toNat x.toNat_lt
      have sy := hex_spec (m := m) y.toNat y.toNat_lt
      simp only [n_ref2_Hex] at sx sy
      have rx := hexI_range x.toNat
      have ry := hexI_range y.toNat
      by_cases hx0 : hexI x.toNat < 0
      · have hq : uqStep (c :: d :: x :: y :: s.drop (i + 4)) = none := by simp [uqStep, h92, d120, hx0]
        rw [hq]
        simp -implicitDefEqProofs (maxSteps := 1000000) (disch := omega) only [↓Int.reduceLT, ↓Int.reduceLE, ↓Int.reduceEq, ↓Nat.reduceEqDiff, Nat.reduceBEq, ↓reduceIte, St.toRS, restrict, initEnv, plainArgs, reduceCtorEq, Nat.reduceEqDiff, Nat.reduceAdd, Nat.reduceMul, Int.reduceLT, Int.reduceLE, Int.reduceEq, Int.reduceNeg, Int.reduceAdd, Int.reduceToNat, Int.reduceNe, Nat.reduceSub, Int.reducePow, Int.reduceMul, vb0, vb1, vb2, vb3, vb4, vb5, vb6, vb7, l_ref2_Unquote_1, v_inv, hib, hg, g1, g2, g3, w1, w2, w3, f1, hg1, k1, m1, m2, m3, m4, m5, ws, k2, hg2, hg3, sx, sy, hx0, v_fail]
      by_cases hy0 : hexI y.toNat < 0
      · have hq : uqStep (c :: d :: x :: y :: s.drop (i + 4)) = none := by simp [uqStep, h92, d120, hy0]
        rw [hq]
        simp -implicitDefEqProofs (maxSteps := 1000000) (disch := omega) only [↓Int.reduceLT, ↓Int.reduceLE, ↓Int.reduceEq, ↓Nat.reduceEqDiff, Nat.reduceBEq, ↓reduceIte, St.toRS, restrict, initEnv, plainArgs, reduceCtorEq, Nat.reduceEqDiff, Nat.reduceAdd, Nat.reduceMul, Int.reduceLT, Int.reduceLE, Int.reduceEq, Int.reduceNeg, Int.reduceAdd, Int.reduceToNat, Int.reduceNe, Nat.reduceSub, Int.reducePow, Int.reduceMul, vb0, vb1, vb2, vb3, vb4, vb5, vb6, vb7, l_ref2_Unquote_1, v_inv, hib, hg, g1, g2, g3, w1, w2, w3, f1, hg1, k1, m1, m2, m3, m4, m5, ws, k2, hg2, hg3, sx, sy, hx0, hy0, v_fail]
      have q1 : IntKind.i64.wrap (hexI x.toNat * 16) = hexI x.toNat * 16 := wrap_i64 (by omega) (by omega)
      have q3 : IntKind.i64.wrap (hexI x.toNat * 16 + hexI y.toNat) = hexI x.toNat * 16 + hexI y.toNat := wrap_i64 (by omega) (by omega)
      have q2 : IntKind.u8.wrap (hexI x.toNat * 16 + hexI y.toNat) = hexI x.toNat * 16 + hexI y.toNat := wrap_u8 (by omega) (by omega)
      have hq : uqStep (c :: d :: x :: y :: s.drop (i + 4)) = some (UInt8.ofNat (hexI x.toNat * 16 + hexI y.toNat).toNat, 4) := by simp [uqStep, h92, d120, hx0, hy0]
      have hb : byteD (UInt8.ofNat (hexI x.toNat * 16 + hexI y.toNat).toNat) = .int .u8 (hexI x.toNat * 16 + hexI y.toNat) := by
        simp only [byteD]
        rw [toNat_ofNatU _ (by omega), Int.toNat_of_nonneg (by omega)]
      rw [hq]
      simp -implicitDefEqProofs (maxSteps := 1000000) (disch := omega) only [↓Int.reduceLT, ↓Int.reduceLE, ↓Int.reduceEq, ↓Nat.reduceEqDiff, Nat.reduceBEq, ↓reduceIte, St.toRS, restrict, initEnv, plainArgs, reduceCtorEq, Nat.reduceEqDiff, Nat.reduceAdd, Nat.reduceMul, Int.reduceLT, Int.reduceLE, Int.reduceEq, Int.reduceNeg, Int.reduceAdd, Int.reduceToNat, Int.reduceNe, Nat.reduceSub, Int.reducePow, Int.reduceMul, vb0, vb1, vb2, vb3, vb4, vb5, vb6, vb7, l_ref2_Unquote_1, v_inv, hib, hg, g1, g2, g3, w1, w2, w3, w4, f1, hg1, k1, m1, m2, m3, m4, m5, ws, k2, hg2, hg3, sx, sy, hx0, hy0, q1, q3, q2, o1, bytesD_length, bytesD_append, bytesD_cons, bytesD_nil, hb]
    · have k1 : ¬ ((d.toNat : Int) = 120) := by omega
      have hq : uqStep (c :: d :: s.drop (i + 2)) = none := by simp [uqStep, h92, d34, d92, d110, d116, d114, d120]
      rw [hq]
      simp -implicitDefEqProofs (maxSteps := 1000000) (disch := omega) only [↓Int.reduceLT, ↓Int.reduceLE, ↓Int.reduceEq, ↓Nat.reduceEqDiff, Nat.reduceBEq, ↓reduceIte, St.toRS, restrict, initEnv, plainArgs, reduceCtorEq, Nat.reduceEqDiff, Nat.reduceAdd, Nat.reduceMul, Int.reduceLT, Int.reduceLE, Int.reduceEq, Int.reduceNeg, Int.reduceAdd, Int.reduceToNat, Int.reduceNe, Nat.reduceSub, Int.reducePow, Int.reduceMul, vb0, vb1, vb2, vb3, vb4, vb5, vb6, vb7, l_ref2_Unquote_1, v_inv, hib, hg, g1, g2, g3, w1, f1, hg1, k1, m1, m2, m3, m4, m5, v_fail]
  · have g3 : ¬ ((c.toNat : Int) = 92) := by omega
    have hq : uqStep (c :: s.drop (i + 1)) = some (c, 1) := by simp [uqStep, h34, h10, h92]
    rw [hq]
    simp -implicitDefEqProofs (maxSteps := 1000000) (disch := omega) only [↓Int.reduceLT, ↓Int.reduceLE, ↓Int.reduceEq, ↓Nat.reduceEqDiff, Nat.reduceBEq, ↓reduceIte, St.toRS, restrict, initEnv, plainArgs, reduceCtorEq, Nat.reduceEqDiff, Nat.reduceAdd, Nat.reduceMul, Int.reduceLT, Int.reduceLE, Int.reduceEq, Int.reduceNeg, Int.reduceAdd, Int.reduceToNat, Int.reduceNe, Nat.reduceSub, Int.reducePow, Int.reduceMul, vb0, vb1, vb2, vb3, vb4, vb5, vb6, vb7, l_ref2_Unquote_1, v_inv, hib, hg, g1, g2, g3, w1, o1, bytesD_length, bytesD_append, bytesD_cons, bytesD_nil, byteD]
end Go.Proofs.Ytladdhfkmnhmfaa
