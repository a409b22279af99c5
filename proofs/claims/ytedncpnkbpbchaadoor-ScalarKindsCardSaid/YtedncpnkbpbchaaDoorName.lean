/-
  Names of kinds, and the law ScalarKinds: over data.
-/
import Derived.Test.YtedncpnkbpbchaaDoorKind
set_option linter.unusedVariables false
set_option linter.unusedSimpArgs false
set_option maxRecDepth 100000
set_option maxHeartbeats 8000000
namespace Go.Proofs.YtedncpnkbpbchaaDoor
open Go.Vi
variable {q : Bool}

/-- At which place, counted from i on, a name stands; 0: nowhere. -/
def kIdx : List (List UInt8) → Nat → List UInt8 → Nat
  | [], _, _ => 0
  | x :: r, i, s => if x = s then i else kIdx r (i + 1) s
theorem kIdx_le : ∀ (l : List (List UInt8)) (i : Nat) (s : List UInt8), kIdx l i s = 0 ∨ (i ≤ kIdx l i s ∧ kIdx l i s < i + l.length)
  | [], _, _ => Or.inl rfl
  | x :: r, i, s => by
    have := kIdx_le r (i + 1) s
    simp only [kIdx, List.length_cons]
    split
    · right; omega
    · rcases this with h | h
      · exact Or.inl h
      · right; omega
def kindP (s : List UInt8) : Nat := kIdx kindNames 1 s

theorem fields_spec : C (M true) 57 [.d (.str fieldsText)] = some (.d (.slice 1 (kindNames.map D.str))) := by
  rw [C_prim (p := fieldsPrim) rfl]
  show fieldsPrim [.str fieldsText] = _
  simp only [fieldsPrim, if_true]

def kd_st (s : List UInt8) (j : Nat) : St := { env := [(0, .d (.str s)), (6, .d (.slice 1 (kindNames.map D.str))), (7, .d (.int .i64 15)), (8, .d (.int .i64 j))], bx := [] }
theorem kd_loop (s : List UInt8) : ∀ (f j : Nat), j ≤ 15 → 15 - j ≤ f →
    X (M q) (.loop l_scalar_Kind_1) (kd_st s j) = if kIdx (kindNames.drop j) (j + 1) s = 0 then some (.exit 0, { env := [(0, .d (.str s)), (6, .d (.slice 1 (kindNames.map D.str))), (7, .d (.int .i64 15)), (8, .d (.int .i64 15)), (9, .d (.bool false))], bx := [] })
      else some (.ret, { env := [(2, .d (.int .i64 (kIdx (kindNames.drop j) (j + 1) s : Nat))), (3, .d (.int .i64 0))], bx := [] }) := by
  have hl : kindNames.length = 15 := rfl
  have hlm : (kindNames.map D.str).length = 15 := rfl
  intro f
  induction f with
  | zero =>
    intro j hj hf
    obtain rfl : j = 15 := by omega
    have e : kIdx (kindNames.drop 15) (15 + 1) s = 0 := rfl
    rw [e, if_pos rfl]
    refine loop_exit ?_ (by simp)
    simp only [kd_st]
    generalize kindNames.map D.str = K at *
    simp -implicitDefEqProofs (maxSteps := 1000000) (disch := omega) only [↓Int.reduceLT, ↓Int.reduceLE, ↓Int.reduceEq, ↓Nat.reduceEqDiff, Nat.reduceBEq, ↓reduceIte, St.toRS, restrict, initEnv, plainArgs, reduceCtorEq, Nat.reduceEqDiff, Nat.reduceAdd, Nat.reduceMul, Int.reduceLT, Int.reduceLE, Int.reduceEq, Int.reduceNeg, Int.reduceAdd, Int.reduceToNat, Int.reduceNe, Nat.reduceSub, Int.reducePow, Int.reduceMul, vb0, vb1, vb2, vb3, vb4, vb5, vb6, vb7, l_scalar_Kind_1]
  | succ f ih =>
    intro j hj hf
    rcases Nat.lt_or_ge j 15 with hlt | hge
    · have hg : (kindNames.map D.str)[j]? = some (.str (kindNames[j]'(by omega))) := by rw [List.getElem?_map]; simp [hl, hlt]
      have hih := ih (j + 1) (by omega) (by omega)
      rw [List.drop_eq_getElem_cons (by omega), kIdx]
      simp only [kd_st] at hih ⊢
      generalize kindNames[j]'(by omega) = x at *
      generalize kIdx (kindNames.drop (j + 1)) (j + 1 + 1) s = r at *
      generalize kindNames.map D.str = K at *
      by_cases h : x = s
      · rw [if_pos h, if_neg (by omega)]
        refine loop_exit ?_ (by simp)
        simp -implicitDefEqProofs (maxSteps := 1000000) (disch := omega) only [↓Int.reduceLT, ↓Int.reduceLE, ↓Int.reduceEq, ↓Nat.reduceEqDiff, Nat.reduceBEq, ↓reduceIte, St.toRS, restrict, initEnv, plainArgs, reduceCtorEq, Nat.reduceEqDiff, Nat.reduceAdd, Nat.reduceMul, Int.reduceLT, Int.reduceLE, Int.reduceEq, Int.reduceNeg, Int.reduceAdd, Int.reduceToNat, Int.reduceNe, Nat.reduceSub, Int.reducePow, Int.reduceMul, vb0, vb1, vb2, vb3, vb4, vb5, vb6, vb7, l_scalar_Kind_1, hg, h, Nat.add_comm 1]
      · rw [if_neg h, ← hih, X_loop]
        have hr : X (M q) l_scalar_Kind_1 { env := [(0, .d (.str s)), (6, .d (.slice 1 K)), (7, .d (.int .i64 15)), (8, .d (.int .i64 j))], bx := [] } = some (.norm, { env := [(0, .d (.str s)), (6, .d (.slice 1 K)), (7, .d (.int .i64 15)), (8, .d (.int .i64 (j + 1 : Nat)))], bx := [] }) := by
          simp -implicitDefEqProofs (maxSteps := 1000000) (disch := omega) only [↓Int.reduceLT, ↓Int.reduceLE, ↓Int.reduceEq, ↓Nat.reduceEqDiff, Nat.reduceBEq, ↓reduceIte, St.toRS, restrict, initEnv, plainArgs, reduceCtorEq, Nat.reduceEqDiff, Nat.reduceAdd, Nat.reduceMul, Int.reduceLT, Int.reduceLE, Int.reduceEq, Int.reduceNeg, Int.reduceAdd, Int.reduceToNat, Int.reduceNe, Nat.reduceSub, Int.reducePow, Int.reduceMul, vb0, vb1, vb2, vb3, vb4, vb5, vb6, vb7, l_scalar_Kind_1, hg, h]
        rw [hr]
        rfl
    · obtain rfl : j = 15 := by omega
      have e : kIdx (kindNames.drop 15) (15 + 1) s = 0 := rfl
      rw [e, if_pos rfl]
      refine loop_exit ?_ (by simp)
      simp only [kd_st]
      generalize kindNames.map D.str = K at *
      simp -implicitDefEqProofs (maxSteps := 1000000) (disch := omega) only [↓Int.reduceLT, ↓Int.reduceLE, ↓Int.reduceEq, ↓Nat.reduceEqDiff, Nat.reduceBEq, ↓reduceIte, St.toRS, restrict, initEnv, plainArgs, reduceCtorEq, Nat.reduceEqDiff, Nat.reduceAdd, Nat.reduceMul, Int.reduceLT, Int.reduceLE, Int.reduceEq, Int.reduceNeg, Int.reduceAdd, Int.reduceToNat, Int.reduceNe, Nat.reduceSub, Int.reducePow, Int.reduceMul, vb0, vb1, vb2, vb3, vb4, vb5, vb6, vb7, l_scalar_Kind_1]
theorem kind_spec (s : List UInt8) : C (M true) 21 [.d (.str s)] = some (.tup [.int .i64 (kindP s : Nat), .int .i64 (if kindP s = 0 then 12 else 0)]) := by
  rw [c_fn (sf := f_scalar_Kind) rfl rfl ⟨rfl, rfl⟩]
  have h1 := fields_spec
  have hlm : (kindNames.map D.str).length = 15 := rfl
  have hl := kd_loop (q := true) s 15 0 (by omega) (by omega)
  simp only [kd_st, List.drop_zero, Nat.zero_add, Int.cast_ofNat_Int] at hl
  simp only [fieldsText] at h1
  by_cases hr : kindP s = 0
  · rw [if_pos (show kIdx kindNames 1 s = 0 from hr)] at hl
    simp only [hr, if_pos]
    clear hr
    generalize kindNames.map D.str = K at *
    simp -implicitDefEqProofs (maxSteps := 1000000) (disch := omega) only [↓Int.reduceLT, ↓Int.reduceLE, ↓Int.reduceEq, ↓Nat.reduceEqDiff, Nat.reduceBEq, ↓reduceIte, St.toRS, restrict, initEnv, plainArgs, reduceCtorEq, Nat.reduceEqDiff, Nat.reduceAdd, Nat.reduceMul, Int.reduceLT, Int.reduceLE, Int.reduceEq, Int.reduceNeg, Int.reduceAdd, Int.reduceToNat, Int.reduceNe, Nat.reduceSub, Int.reducePow, Int.reduceMul, vb0, vb1, vb2, vb3, vb4, vb5, vb6, vb7, f_scalar_Kind, h1, hlm, hl]
  · rw [if_neg (show ¬ kIdx kindNames 1 s = 0 from hr), show kIdx kindNames 1 s = kindP s from rfl] at hl
    rw [if_neg hr]
    generalize kindP s = r at *
    generalize kindNames.map D.str = K at *
    simp -implicitDefEqProofs (maxSteps := 1000000) (disch := omega) only [↓Int.reduceLT, ↓Int.reduceLE, ↓Int.reduceEq, ↓Nat.reduceEqDiff, Nat.reduceBEq, ↓reduceIte, St.toRS, restrict, initEnv, plainArgs, reduceCtorEq, Nat.reduceEqDiff, Nat.reduceAdd, Nat.reduceMul, Int.reduceLT, Int.reduceLE, Int.reduceEq, Int.reduceNeg, Int.reduceAdd, Int.reduceToNat, Int.reduceNe, Nat.reduceSub, Int.reducePow, Int.reduceMul, vb0, vb1, vb2, vb3, vb4, vb5, vb6, vb7, f_scalar_Kind, h1, hlm, hl, hr]
def nameP (k : Int) : List UInt8 := if 1 ≤ k ∧ k ≤ 15 then kindNames.getD (k - 1).toNat [] else []
theorem name_spec (k : Int) : C (M true) 20 [.d (.int .i64 k)] = some (.tup [.str (nameP k), .int .i64 (if 1 ≤ k ∧ k ≤ 15 then 0 else 18)]) := by
  rw [c_fn (sf := f_scalar_Name) rfl rfl ⟨rfl, rfl⟩]
  have h1 := fields_spec
  simp only [fieldsText] at h1
  by_cases c1 : k < 1
  · have e : ¬ (1 ≤ k ∧ k ≤ 15) := by omega
    simp only [nameP, if_neg e]
    simp -implicitDefEqProofs (maxSteps := 1000000) (disch := omega) only [↓Int.reduceLT, ↓Int.reduceLE, ↓Int.reduceEq, ↓Nat.reduceEqDiff, Nat.reduceBEq, ↓reduceIte, St.toRS, restrict, initEnv, plainArgs, reduceCtorEq, Nat.reduceEqDiff, Nat.reduceAdd, Nat.reduceMul, Int.reduceLT, Int.reduceLE, Int.reduceEq, Int.reduceNeg, Int.reduceAdd, Int.reduceToNat, Int.reduceNe, Nat.reduceSub, Int.reducePow, Int.reduceMul, vb0, vb1, vb2, vb3, vb4, vb5, vb6, vb7, f_scalar_Name]
  by_cases c2 : 15 < k
  · have e : ¬ (1 ≤ k ∧ k ≤ 15) := by omega
    simp only [nameP, if_neg e]
    simp -implicitDefEqProofs (maxSteps := 1000000) (disch := omega) only [↓Int.reduceLT, ↓Int.reduceLE, ↓Int.reduceEq, ↓Nat.reduceEqDiff, Nat.reduceBEq, ↓reduceIte, St.toRS, restrict, initEnv, plainArgs, reduceCtorEq, Nat.reduceEqDiff, Nat.reduceAdd, Nat.reduceMul, Int.reduceLT, Int.reduceLE, Int.reduceEq, Int.reduceNeg, Int.reduceAdd, Int.reduceToNat, Int.reduceNe, Nat.reduceSub, Int.reducePow, Int.reduceMul, vb0, vb1, vb2, vb3, vb4, vb5, vb6, vb7, f_scalar_Name]
  have e : 1 ≤ k ∧ k ≤ 15 := by omega
  have hl : kindNames.length = 15 := rfl
  obtain ⟨j, rfl, hj⟩ : ∃ j : Nat, k = (j : Int) + 1 ∧ j < 15 := ⟨(k - 1).toNat, by omega, by omega⟩
  have hg : (kindNames.map D.str)[j]? = some (.str (kindNames[j]'(by omega))) := by rw [List.getElem?_map]; simp [hl, hj]
  have en : nameP ((j : Int) + 1) = kindNames[j]'(by omega) := by
    simp only [nameP, if_pos e, show ((j : Int) + 1 - 1).toNat = j by omega, List.getD]
    rw [List.getElem?_eq_getElem (by omega), Option.getD_some]
  rw [en, if_pos e]
  generalize kindNames[j]'(by omega) = x at *
  generalize kindNames.map D.str = K at *
  have s1 : j + 1 - 1 = j := by omega
  simp -implicitDefEqProofs (maxSteps := 1000000) (disch := omega) only [↓Int.reduceLT, ↓Int.reduceLE, ↓Int.reduceEq, ↓Nat.reduceEqDiff, Nat.reduceBEq, ↓reduceIte, St.toRS, restrict, initEnv, plainArgs, reduceCtorEq, Nat.reduceEqDiff, Nat.reduceAdd, Nat.reduceMul, Int.reduceLT, Int.reduceLE, Int.reduceEq, Int.reduceNeg, Int.reduceAdd, Int.reduceToNat, Int.reduceNe, Nat.reduceSub, Int.reducePow, Int.reduceMul, vb0, vb1, vb2, vb3, vb4, vb5, vb6, vb7, f_scalar_Name, h1, s1, hg]

/-! ### The reference's names -/
theorem rnames_run (q : Bool) : call (M q) 1000 27 [] = some (.d (.agg (.str [] :: kindNames.map D.str))) := by kernel_rfl
theorem rnames_spec : C (M q) 27 [] = some (.d (.agg (.str [] :: kindNames.map D.str))) := C_call (rnames_run q)
def rk_st (s : List UInt8) (j : Nat) : St := { env := [(0, .d (.str s)), (3, .lref 3 0), (4, .d (.int .i64 j))], bx := [(3, .str [] :: kindNames.map D.str)] }
theorem rk_loop (s : List UInt8) : ∀ (f j : Nat), j ≤ 15 → 15 - j ≤ f →
    X (M q) (.loop l_ref3_Kind_1) (rk_st s (j + 1)) = if kIdx (kindNames.drop j) (j + 1) s = 0 then some (.exit 0, { env := [(0, .d (.str s)), (3, .lref 3 0), (4, .d (.int .i64 16)), (7, .d (.bool false))], bx := [(3, .str [] :: kindNames.map D.str)] })
      else some (.ret, { env := [(2, .d (.int .i64 (kIdx (kindNames.drop j) (j + 1) s : Nat)))], bx := [] }) := by
  have hl : kindNames.length = 15 := rfl
  have hlm : (kindNames.map D.str).length = 15 := rfl
  intro f
  induction f with
  | zero =>
    intro j hj hf
    obtain rfl : j = 15 := by omega
    have e : kIdx (kindNames.drop 15) (15 + 1) s = 0 := rfl
    rw [e, if_pos rfl]
    refine loop_exit ?_ (by simp)
    simp only [rk_st]
    generalize kindNames.map D.str = K at *
    simp -implicitDefEqProofs (maxSteps := 1000000) (disch := omega) only [↓Int.reduceLT, ↓Int.reduceLE, ↓Int.reduceEq, ↓Nat.reduceEqDiff, Nat.reduceBEq, ↓reduceIte, St.toRS, restrict, initEnv, plainArgs, reduceCtorEq, Nat.reduceEqDiff, Nat.reduceAdd, Nat.reduceMul, Int.reduceLT, Int.reduceLE, Int.reduceEq, Int.reduceNeg, Int.reduceAdd, Int.reduceToNat, Int.reduceNe, Nat.reduceSub, Int.reducePow, Int.reduceMul, vb0, vb1, vb2, vb3, vb4, vb5, vb6, vb7, l_ref3_Kind_1]
  | succ f ih =>
    intro j hj hf
    rcases Nat.lt_or_ge j 15 with hlt | hge
    · have hg : (kindNames.map D.str)[j]? = some (.str (kindNames[j]'(by omega))) := by rw [List.getElem?_map]; simp [hl, hlt]
      have hih := ih (j + 1) (by omega) (by omega)
      rw [List.drop_eq_getElem_cons (by omega), kIdx]
      simp only [rk_st] at hih ⊢
      generalize kindNames[j]'(by omega) = x at *
      generalize kIdx (kindNames.drop (j + 1)) (j + 1 + 1) s = r at *
      generalize kindNames.map D.str = K at *
      by_cases h : x = s
      · rw [if_pos h, if_neg (by omega)]
        refine loop_exit ?_ (by simp)
        simp -implicitDefEqProofs (maxSteps := 1000000) (disch := omega) only [↓Int.reduceLT, ↓Int.reduceLE, ↓Int.reduceEq, ↓Nat.reduceEqDiff, Nat.reduceBEq, ↓reduceIte, St.toRS, restrict, initEnv, plainArgs, reduceCtorEq, Nat.reduceEqDiff, Nat.reduceAdd, Nat.reduceMul, Int.reduceLT, Int.reduceLE, Int.reduceEq, Int.reduceNeg, Int.reduceAdd, Int.reduceToNat, Int.reduceNe, Nat.reduceSub, Int.reducePow, Int.reduceMul, vb0, vb1, vb2, vb3, vb4, vb5, vb6, vb7, l_ref3_Kind_1, hg, h, sub, List.getElem?_cons_succ]
      · rw [if_neg h, ← hih, X_loop]
        have hr : X (M q) l_ref3_Kind_1 { env := [(0, .d (.str s)), (3, .lref 3 0), (4, .d (.int .i64 (j + 1 : Nat)))], bx := [(3, .str [] :: K)] } = some (.norm, { env := [(0, .d (.str s)), (3, .lref 3 0), (4, .d (.int .i64 (j + 1 + 1 : Nat)))], bx := [(3, .str [] :: K)] }) := by
          simp -implicitDefEqProofs (maxSteps := 1000000) (disch := omega) only [↓Int.reduceLT, ↓Int.reduceLE, ↓Int.reduceEq, ↓Nat.reduceEqDiff, Nat.reduceBEq, ↓reduceIte, St.toRS, restrict, initEnv, plainArgs, reduceCtorEq, Nat.reduceEqDiff, Nat.reduceAdd, Nat.reduceMul, Int.reduceLT, Int.reduceLE, Int.reduceEq, Int.reduceNeg, Int.reduceAdd, Int.reduceToNat, Int.reduceNe, Nat.reduceSub, Int.reducePow, Int.reduceMul, vb0, vb1, vb2, vb3, vb4, vb5, vb6, vb7, l_ref3_Kind_1, hg, h, sub, List.getElem?_cons_succ]
        rw [hr]
        rfl
    · obtain rfl : j = 15 := by omega
      have e : kIdx (kindNames.drop 15) (15 + 1) s = 0 := rfl
      rw [e, if_pos rfl]
      refine loop_exit ?_ (by simp)
      simp only [rk_st]
      generalize kindNames.map D.str = K at *
      simp -implicitDefEqProofs (maxSteps := 1000000) (disch := omega) only [↓Int.reduceLT, ↓Int.reduceLE, ↓Int.reduceEq, ↓Nat.reduceEqDiff, Nat.reduceBEq, ↓reduceIte, St.toRS, restrict, initEnv, plainArgs, reduceCtorEq, Nat.reduceEqDiff, Nat.reduceAdd, Nat.reduceMul, Int.reduceLT, Int.reduceLE, Int.reduceEq, Int.reduceNeg, Int.reduceAdd, Int.reduceToNat, Int.reduceNe, Nat.reduceSub, Int.reducePow, Int.reduceMul, vb0, vb1, vb2, vb3, vb4, vb5, vb6, vb7, l_ref3_Kind_1]
theorem set_all (l : List D) : ∀ (cs : List D), cs.length = l.length → setAt cs 0 l = l := by
  have gen : ∀ (l cs : List D) (k : Nat), cs.length = k + l.length → setAt cs k l = cs.take k ++ l := by
    intro l
    induction l with
    | nil => intro cs k h; simp [setAt, List.take_of_length_le (show cs.length ≤ k by simpa using Nat.le_of_eq h)]
    | cons x l ih =>
      intro cs k h
      simp only [List.length_cons] at h
      rw [setAt, ih (cs.set k x) (k + 1) (by simp; omega)]
      rw [List.take_add_one]
      simp only [List.take_set_of_le (Nat.le_refl k), List.getElem?_set]
      simp [show k < cs.length by omega]
  intro cs h
  have := gen l cs 0 (by simpa using h)
  simpa using this
theorem rkind_spec (s : List UInt8) : C (M q) 28 [.d (.str s)] = some (.d (.int .i64 (kindP s : Nat))) := by
  rw [c_fn (sf := f_ref3_Kind) rfl rfl ⟨rfl, rfl⟩]
  have h1 := rnames_spec (q := q)
  have hlm : (kindNames.map D.str).length = 15 := rfl
  have hl := rk_loop (q := q) s 15 0 (by omega) (by omega)
  simp only [rk_st, List.drop_zero, Nat.zero_add, Int.cast_ofNat_Int] at hl
  have hs := set_all (.str [] :: kindNames.map D.str) [.str [], .str [], .str [], .str [], .str [], .str [], .str [], .str [], .str [], .str [], .str [], .str [], .str [], .str [], .str [], .str []] rfl
  by_cases hr : kindP s = 0
  · rw [if_pos (show kIdx kindNames 1 s = 0 from hr)] at hl
    rw [hr]
    clear hr
    generalize kindNames.map D.str = K at *
    simp -implicitDefEqProofs (maxSteps := 1000000) (disch := omega) only [↓Int.reduceLT, ↓Int.reduceLE, ↓Int.reduceEq, ↓Nat.reduceEqDiff, Nat.reduceBEq, ↓reduceIte, St.toRS, restrict, initEnv, plainArgs, reduceCtorEq, Nat.reduceEqDiff, Nat.reduceAdd, Nat.reduceMul, Int.reduceLT, Int.reduceLE, Int.reduceEq, Int.reduceNeg, Int.reduceAdd, Int.reduceToNat, Int.reduceNe, Nat.reduceSub, Int.reducePow, Int.reduceMul, vb0, vb1, vb2, vb3, vb4, vb5, vb6, vb7, f_ref3_Kind, h1, hlm, hl, hs]
  · rw [if_neg (show ¬ kIdx kindNames 1 s = 0 from hr), show kIdx kindNames 1 s = kindP s from rfl] at hl
    generalize kindP s = r at *
    generalize kindNames.map D.str = K at *
    simp -implicitDefEqProofs (maxSteps := 1000000) (disch := omega) only [↓Int.reduceLT, ↓Int.reduceLE, ↓Int.reduceEq, ↓Nat.reduceEqDiff, Nat.reduceBEq, ↓reduceIte, St.toRS, restrict, initEnv, plainArgs, reduceCtorEq, Nat.reduceEqDiff, Nat.reduceAdd, Nat.reduceMul, Int.reduceLT, Int.reduceLE, Int.reduceEq, Int.reduceNeg, Int.reduceAdd, Int.reduceToNat, Int.reduceNe, Nat.reduceSub, Int.reducePow, Int.reduceMul, vb0, vb1, vb2, vb3, vb4, vb5, vb6, vb7, f_ref3_Kind, h1, hlm, hl, hs, hr]

theorem kinds_data (k : Int) (s : List UInt8) (n : Int) (b : List UInt8) (ms : List D) (h : 0 ≤ n ∧ n ≤ 18446744073709551615) :
    C (M true) n_law3_ScalarKinds [.d (.int .i64 k), .d (.str s), .d (valD n b ms)] = some (.d (.bool true)) := by
  rw [c_fn (sf := f_law3_ScalarKinds) rfl rfl ⟨rfl, rfl⟩]
  have w0 := awake_data (k := true)
  have w1 := wire_spec (q := true) k
  have w2 := name_spec k
  have w3 := kind_spec s
  have w4 := numeric_spec (q := true) k
  have w5 := rnumeric_spec (q := true) k
  have w6 := isKey_spec (q := true) k
  have w7 := risKey_spec (q := true) k
  have w8 := fits_spec (q := true) k n b ms h.1 h.2
  have w9 := rfits_spec (q := true) k n b ms h.1 h.2
  have wa := rwire_spec (q := true) k
  have wb := rkind_spec (q := true) s
  have wc := rnames_spec (q := true)
  have hwr : wireI k = -1 ∨ (0 ≤ wireI k ∧ wireI k ≤ 5) := by
    simp only [wireI]
    split
    · right; omega
    split
    · right; omega
    split
    · right; omega
    split
    · right; omega
    · left; rfl
  have hkp : kindP s ≤ 15 := by
    have := kIdx_le kindNames 1 s
    have hl : kindNames.length = 15 := rfl
    simp only [kindP]; omega
  have nk : ∀ hk : 1 ≤ k ∧ k ≤ 15, ((.str [] :: kindNames.map D.str : List D))[k.toNat]? = some (.str (nameP k)) := by
    intro hk
    obtain ⟨j, rfl, hj⟩ : ∃ j : Nat, k = (j : Int) + 1 ∧ j < 15 := ⟨(k - 1).toNat, by omega, by omega⟩
    have hl : kindNames.length = 15 := rfl
    rw [show ((j : Int) + 1).toNat = j + 1 by omega, List.getElem?_cons_succ, List.getElem?_map]
    simp only [nameP, if_pos hk, show ((j : Int) + 1 - 1).toNat = j by omega, List.getD]
    rw [List.getElem?_eq_getElem (by omega)]
    rfl
  simp only [valD] at w8 w9 ⊢
  generalize numericB k = B1 at *
  generalize isKeyB k = B2 at *
  generalize fitsB k n b ms = B3 at *
  generalize kindP s = r at *
  generalize wireI k = w at *
  generalize hN : nameP k = nm at *
  by_cases hk : 1 ≤ k ∧ k ≤ 15
  · have nk := nk hk
    simp only [if_pos hk] at w2
    rcases hwr with rfl | hw
    · by_cases hr : r = 0
      · subst hr
        simp -implicitDefEqProofs (maxSteps := 1000000) (disch := omega) only [↓Int.reduceLT, ↓Int.reduceLE, ↓Int.reduceEq, ↓Nat.reduceEqDiff, Nat.reduceBEq, ↓reduceIte, St.toRS, restrict, initEnv, plainArgs, reduceCtorEq, Nat.reduceEqDiff, Nat.reduceAdd, Nat.reduceMul, Int.reduceLT, Int.reduceLE, Int.reduceEq, Int.reduceNeg, Int.reduceAdd, Int.reduceToNat, Int.reduceNe, Nat.reduceSub, Int.reducePow, Int.reduceMul, vb0, vb1, vb2, vb3, vb4, vb5, vb6, vb7, f_law3_ScalarKinds, w0, w1, w2, w3, w4, w5, w6, w7, w8, w9, wa, wb, wc, sub, nk, List.drop_zero, List.take_succ_cons, List.take_zero, List.getElem?_cons_zero, List.getElem?_cons_succ]
      · simp -implicitDefEqProofs (maxSteps := 1000000) (disch := omega) only [↓Int.reduceLT, ↓Int.reduceLE, ↓Int.reduceEq, ↓Nat.reduceEqDiff, Nat.reduceBEq, ↓reduceIte, St.toRS, restrict, initEnv, plainArgs, reduceCtorEq, Nat.reduceEqDiff, Nat.reduceAdd, Nat.reduceMul, Int.reduceLT, Int.reduceLE, Int.reduceEq, Int.reduceNeg, Int.reduceAdd, Int.reduceToNat, Int.reduceNe, Nat.reduceSub, Int.reducePow, Int.reduceMul, vb0, vb1, vb2, vb3, vb4, vb5, vb6, vb7, f_law3_ScalarKinds, w0, w1, w2, w3, w4, w5, w6, w7, w8, w9, wa, wb, wc, sub, nk, hr, List.drop_zero, List.take_succ_cons, List.take_zero, List.getElem?_cons_zero, List.getElem?_cons_succ]
    · have hw2 : ¬ w < 0 := by omega
      simp only [if_neg hw2] at w1
      by_cases hr : r = 0
      · subst hr
        simp -implicitDefEqProofs (maxSteps := 1000000) (disch := omega) only [↓Int.reduceLT, ↓Int.reduceLE, ↓Int.reduceEq, ↓Nat.reduceEqDiff, Nat.reduceBEq, ↓reduceIte, St.toRS, restrict, initEnv, plainArgs, reduceCtorEq, Nat.reduceEqDiff, Nat.reduceAdd, Nat.reduceMul, Int.reduceLT, Int.reduceLE, Int.reduceEq, Int.reduceNeg, Int.reduceAdd, Int.reduceToNat, Int.reduceNe, Nat.reduceSub, Int.reducePow, Int.reduceMul, vb0, vb1, vb2, vb3, vb4, vb5, vb6, vb7, f_law3_ScalarKinds, w0, w1, w2, w3, w4, w5, w6, w7, w8, w9, wa, wb, wc, sub, nk, List.drop_zero, List.take_succ_cons, List.take_zero, List.getElem?_cons_zero, List.getElem?_cons_succ]
      · simp -implicitDefEqProofs (maxSteps := 1000000) (disch := omega) only [↓Int.reduceLT, ↓Int.reduceLE, ↓Int.reduceEq, ↓Nat.reduceEqDiff, Nat.reduceBEq, ↓reduceIte, St.toRS, restrict, initEnv, plainArgs, reduceCtorEq, Nat.reduceEqDiff, Nat.reduceAdd, Nat.reduceMul, Int.reduceLT, Int.reduceLE, Int.reduceEq, Int.reduceNeg, Int.reduceAdd, Int.reduceToNat, Int.reduceNe, Nat.reduceSub, Int.reducePow, Int.reduceMul, vb0, vb1, vb2, vb3, vb4, vb5, vb6, vb7, f_law3_ScalarKinds, w0, w1, w2, w3, w4, w5, w6, w7, w8, w9, wa, wb, wc, sub, nk, hr, List.drop_zero, List.take_succ_cons, List.take_zero, List.getElem?_cons_zero, List.getElem?_cons_succ]
  · have hnm : nm = [] := by rw [← hN]; simp only [nameP, if_neg hk]
    subst hnm
    simp only [if_neg hk] at w2
    clear nk
    have hout : k < 1 ∨ 15 < k := by omega
    rcases hout with c | c
    · rcases hwr with rfl | hw
      · by_cases hr : r = 0
        · subst hr
          simp -implicitDefEqProofs (maxSteps := 1000000) (disch := omega) only [↓Int.reduceLT, ↓Int.reduceLE, ↓Int.reduceEq, ↓Nat.reduceEqDiff, Nat.reduceBEq, ↓reduceIte, St.toRS, restrict, initEnv, plainArgs, reduceCtorEq, Nat.reduceEqDiff, Nat.reduceAdd, Nat.reduceMul, Int.reduceLT, Int.reduceLE, Int.reduceEq, Int.reduceNeg, Int.reduceAdd, Int.reduceToNat, Int.reduceNe, Nat.reduceSub, Int.reducePow, Int.reduceMul, vb0, vb1, vb2, vb3, vb4, vb5, vb6, vb7, f_law3_ScalarKinds, w0, w1, w2, w3, w4, w5, w6, w7, w8, w9, wa, wb, wc, sub, List.drop_zero, List.take_succ_cons, List.take_zero, List.getElem?_cons_zero, List.getElem?_cons_succ]
        · simp -implicitDefEqProofs (maxSteps := 1000000) (disch := omega) only [↓Int.reduceLT, ↓Int.reduceLE, ↓Int.reduceEq, ↓Nat.reduceEqDiff, Nat.reduceBEq, ↓reduceIte, St.toRS, restrict, initEnv, plainArgs, reduceCtorEq, Nat.reduceEqDiff, Nat.reduceAdd, Nat.reduceMul, Int.reduceLT, Int.reduceLE, Int.reduceEq, Int.reduceNeg, Int.reduceAdd, Int.reduceToNat, Int.reduceNe, Nat.reduceSub, Int.reducePow, Int.reduceMul, vb0, vb1, vb2, vb3, vb4, vb5, vb6, vb7, f_law3_ScalarKinds, w0, w1, w2, w3, w4, w5, w6, w7, w8, w9, wa, wb, wc, sub, hr, List.drop_zero, List.take_succ_cons, List.take_zero, List.getElem?_cons_zero, List.getElem?_cons_succ]
      · have hw2 : ¬ w < 0 := by omega
        simp only [if_neg hw2] at w1
        by_cases hr : r = 0
        · subst hr
          simp -implicitDefEqProofs (maxSteps := 1000000) (disch := omega) only [↓Int.reduceLT, ↓Int.reduceLE, ↓Int.reduceEq, ↓Nat.reduceEqDiff, Nat.reduceBEq, ↓reduceIte, St.toRS, restrict, initEnv, plainArgs, reduceCtorEq, Nat.reduceEqDiff, Nat.reduceAdd, Nat.reduceMul, Int.reduceLT, Int.reduceLE, Int.reduceEq, Int.reduceNeg, Int.reduceAdd, Int.reduceToNat, Int.reduceNe, Nat.reduceSub, Int.reducePow, Int.reduceMul, vb0, vb1, vb2, vb3, vb4, vb5, vb6, vb7, f_law3_ScalarKinds, w0, w1, w2, w3, w4, w5, w6, w7, w8, w9, wa, wb, wc, sub, List.drop_zero, List.take_succ_cons, List.take_zero, List.getElem?_cons_zero, List.getElem?_cons_succ]
        · simp -implicitDefEqProofs (maxSteps := 1000000) (disch := omega) only [↓Int.reduceLT, ↓Int.reduceLE, ↓Int.reduceEq, ↓Nat.reduceEqDiff, Nat.reduceBEq, ↓reduceIte, St.toRS, restrict, initEnv, plainArgs, reduceCtorEq, Nat.reduceEqDiff, Nat.reduceAdd, Nat.reduceMul, Int.reduceLT, Int.reduceLE, Int.reduceEq, Int.reduceNeg, Int.reduceAdd, Int.reduceToNat, Int.reduceNe, Nat.reduceSub, Int.reducePow, Int.reduceMul, vb0, vb1, vb2, vb3, vb4, vb5, vb6, vb7, f_law3_ScalarKinds, w0, w1, w2, w3, w4, w5, w6, w7, w8, w9, wa, wb, wc, sub, hr, List.drop_zero, List.take_succ_cons, List.take_zero, List.getElem?_cons_zero, List.getElem?_cons_succ]
    · rcases hwr with rfl | hw
      · by_cases hr : r = 0
        · subst hr
          simp -implicitDefEqProofs (maxSteps := 1000000) (disch := omega) only [↓Int.reduceLT, ↓Int.reduceLE, ↓Int.reduceEq, ↓Nat.reduceEqDiff, Nat.reduceBEq, ↓reduceIte, St.toRS, restrict, initEnv, plainArgs, reduceCtorEq, Nat.reduceEqDiff, Nat.reduceAdd, Nat.reduceMul, Int.reduceLT, Int.reduceLE, Int.reduceEq, Int.reduceNeg, Int.reduceAdd, Int.reduceToNat, Int.reduceNe, Nat.reduceSub, Int.reducePow, Int.reduceMul, vb0, vb1, vb2, vb3, vb4, vb5, vb6, vb7, f_law3_ScalarKinds, w0, w1, w2, w3, w4, w5, w6, w7, w8, w9, wa, wb, wc, sub, List.drop_zero, List.take_succ_cons, List.take_zero, List.getElem?_cons_zero, List.getElem?_cons_succ]
        · simp -implicitDefEqProofs (maxSteps := 1000000) (disch := omega) only [↓Int.reduceLT, ↓Int.reduceLE, ↓Int.reduceEq, ↓Nat.reduceEqDiff, Nat.reduceBEq, ↓reduceIte, St.toRS, restrict, initEnv, plainArgs, reduceCtorEq, Nat.reduceEqDiff, Nat.reduceAdd, Nat.reduceMul, Int.reduceLT, Int.reduceLE, Int.reduceEq, Int.reduceNeg, Int.reduceAdd, Int.reduceToNat, Int.reduceNe, Nat.reduceSub, Int.reducePow, Int.reduceMul, vb0, vb1, vb2, vb3, vb4, vb5, vb6, vb7, f_law3_ScalarKinds, w0, w1, w2, w3, w4, w5, w6, w7, w8, w9, wa, wb, wc, sub, hr, List.drop_zero, List.take_succ_cons, List.take_zero, List.getElem?_cons_zero, List.getElem?_cons_succ]
      · have hw2 : ¬ w < 0 := by omega
        simp only [if_neg hw2] at w1
        by_cases hr : r = 0
        · subst hr
          simp -implicitDefEqProofs (maxSteps := 1000000) (disch := omega) only [↓Int.reduceLT, ↓Int.reduceLE, ↓Int.reduceEq, ↓Nat.reduceEqDiff, Nat.reduceBEq, ↓reduceIte, St.toRS, restrict, initEnv, plainArgs, reduceCtorEq, Nat.reduceEqDiff, Nat.reduceAdd, Nat.reduceMul, Int.reduceLT, Int.reduceLE, Int.reduceEq, Int.reduceNeg, Int.reduceAdd, Int.reduceToNat, Int.reduceNe, Nat.reduceSub, Int.reducePow, Int.reduceMul, vb0, vb1, vb2, vb3, vb4, vb5, vb6, vb7, f_law3_ScalarKinds, w0, w1, w2, w3, w4, w5, w6, w7, w8, w9, wa, wb, wc, sub, List.drop_zero, List.take_succ_cons, List.take_zero, List.getElem?_cons_zero, List.getElem?_cons_succ]
        · simp -implicitDefEqProofs (maxSteps := 1000000) (disch := omega) only [↓Int.reduceLT, ↓Int.reduceLE, ↓Int.reduceEq, ↓Nat.reduceEqDiff, Nat.reduceBEq, ↓reduceIte, St.toRS, restrict, initEnv, plainArgs, reduceCtorEq, Nat.reduceEqDiff, Nat.reduceAdd, Nat.reduceMul, Int.reduceLT, Int.reduceLE, Int.reduceEq, Int.reduceNeg, Int.reduceAdd, Int.reduceToNat, Int.reduceNe, Nat.reduceSub, Int.reducePow, Int.reduceMul, vb0, vb1, vb2, vb3, vb4, vb5, vb6, vb7, f_law3_ScalarKinds, w0, w1, w2, w3, w4, w5, w6, w7, w8, w9, wa, wb, wc, sub, hr, List.drop_zero, List.take_succ_cons, List.take_zero, List.getElem?_cons_zero, List.getElem?_cons_succ]
end Go.Proofs.YtedncpnkbpbchaaDoor
