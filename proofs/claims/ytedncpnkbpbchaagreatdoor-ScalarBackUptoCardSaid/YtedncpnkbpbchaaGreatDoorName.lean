/-
  Names of kinds, and the law ScalarKinds: over data.
-/
import Derived.Test.YtedncpnkbpbchaaGreatDoorKind
set_option linter.unusedVariables false
set_option linter.unusedSimpArgs false
set_option maxRecDepth 100000
set_option maxHeartbeats 8000000
namespace Go.Proofs.YtedncpnkbpbchaaGreatDoor
open Go.Vi


/-- At which place, counted from i on, a name stands; 0: nowhere. -/
def kIdx : List (List UInt8) → Nat → List UInt8 → Nat
  | [], _, _ => 0
  | x :: r, i, s => if x = s then i else kIdx r (i + 1) s
theorem kIdx_le : ∀ (l : List (List UInt8)) (i : Nat) (s : List UInt8), kIdx l i s = 0 ∨ (i ≤ kIdx l i s ∧ kIdx l i s < i + l.length)
  | [], _, _ => Or.inl rfl
  | x :: r, i, s => by
    have := kIdx_le r (i + 1) s
    simp only [kIdx, List.length_cons]
    split
    · right; omega
    · rcases this with h | h
      · exact Or.inl h
      · right; omega
def kindP (s : List UInt8) : Nat := kIdx kindNames 1 s

theorem fields_spec : C M 21 [.d (.str fieldsText)] = some (.d (.slice 1 (kindNames.map D.str))) := by
  rw [C_prim (p := fieldsPrim) rfl]
  show fieldsPrim [.str fieldsText] = _
  simp only [fieldsPrim, if_true]

def kd_st (s : List UInt8) (j : Nat) : St := { env := [(0, .d (.str s)), (6, .d (.slice 1 (kindNames.map D.str))), (7, .d (.int .i64 15)), (8, .d (.int .i64 j))], bx := [] }
theorem kd_loop (s : List UInt8) : ∀ (f j : Nat), j ≤ 15 → 15 - j ≤ f →
    X M (.loop l_scalar_Kind_1) (kd_st s j) = if kIdx (kindNames.drop j) (j + 1) s = 0 then some (.exit 0, { env := [(0, .d (.str s)), (6, .d (.slice 1 (kindNames.map D.str))), (7, .d (.int .i64 15)), (8, .d (.int .i64 15)), (9, .d (.bool false))], bx := [] })
      else some (.ret, { env := [(2, .d (.int .i64 (kIdx (kindNames.drop j) (j + 1) s : Nat))), (3, .d (.int .i64 0))], bx := [] }) := by
  have hl : kindNames.length = 15 := rfl
  have hlm : (kindNames.map D.str).length = 15 := rfl
  intro f
  induction f with
  | zero =>
    intro j hj hf
    obtain rfl : j = 15 := by omega
    have e : kIdx (kindNames.drop 15) (15 + 1) s = 0 := rfl
    rw [e, if_pos rfl]
    refine loop_exit ?_ (by simp)
    simp only [kd_st]
    generalize kindNames.map D.str = K at *
    simp -implicitDefEqProofs (maxSteps := 1000000) (disch := omega) only [↓Int.reduceLT, ↓Int.reduceLE, ↓Int.reduceEq, ↓Nat.reduceEqDiff, Nat.reduceBEq, ↓reduceIte, St.toRS, restrict, initEnv, plainArgs, reduceCtorEq, Nat.reduceEqDiff, Nat.reduceAdd, Nat.reduceMul, Int.reduceLT, Int.reduceLE, Int.reduceEq, Int.reduceNeg, Int.reduceAdd, Int.reduceToNat, Int.reduceNe, Nat.reduceSub, Int.reducePow, Int.reduceMul, vb0, vb1, vb2, vb3, vb4, vb5, vb6, vb7, l_scalar_Kind_1]
  | succ f ih =>
    intro j hj hf
    rcases Nat.lt_or_ge j 15 with hlt | hge
    · have hg : (kindNames.map D.str)[j]? = some (.str (kindNames[j]'(by omega))) := by rw [List.getElem?_map]; simp [hl, hlt]
      have hih := ih (j + 1) (by omega) (by omega)
      rw [List.drop_eq_getElem_cons (by omega), kIdx]
      simp only [kd_st] at hih ⊢
      generalize kindNames[j]'(by omega) = x at *
      generalize kIdx (kindNames.drop (j + 1)) (j + 1 + 1) s = r at *
      generalize kindNames.map D.str = K at *
      by_cases h : x = s
      · rw [if_pos h, if_neg (by omega)]
        refine loop_exit ?_ (by simp)
        simp -implicitDefEqProofs (maxSteps := 1000000) (disch := omega) only [↓Int.reduceLT, ↓Int.reduceLE, ↓Int.reduceEq, ↓Nat.reduceEqDiff, Nat.reduceBEq, ↓reduceIte, St.toRS, restrict, initEnv, plainArgs, reduceCtorEq, Nat.reduceEqDiff, Nat.reduceAdd, Nat.reduceMul, Int.reduceLT, Int.reduceLE, Int.reduceEq, Int.reduceNeg, Int.reduceAdd, Int.reduceToNat, Int.reduceNe, Nat.reduceSub, Int.reducePow, Int.reduceMul, vb0, vb1, vb2, vb3, vb4, vb5, vb6, vb7, l_scalar_Kind_1, hg, h, Nat.add_comm 1]
      · rw [if_neg h, ← hih, X_loop]
        have hr : X M l_scalar_Kind_1 { env := [(0, .d (.str s)), (6, .d (.slice 1 K)), (7, .d (.int .i64 15)), (8, .d (.int .i64 j))], bx := [] } = some (.norm, { env := [(0, .d (.str s)), (6, .d (.slice 1 K)), (7, .d (.int .i64 15)), (8, .d (.int .i64 (j + 1 : Nat)))], bx := [] }) := by
          simp -implicitDefEqProofs (maxSteps := 1000000) (disch := omega) only [↓Int.reduceLT, ↓Int.reduceLE, ↓Int.reduceEq, ↓Nat.reduceEqDiff, Nat.reduceBEq, ↓reduceIte, St.toRS, restrict, initEnv, plainArgs, reduceCtorEq, Nat.reduceEqDiff, Nat.reduceAdd, Nat.reduceMul, Int.reduceLT, Int.reduceLE, Int.reduceEq, Int.reduceNeg, Int.reduceAdd, Int.reduceToNat, Int.reduceNe, Nat.reduceSub, Int.reducePow, Int.reduceMul, vb0, vb1, vb2, vb3, vb4, vb5, vb6, vb7, l_scalar_Kind_1, hg, h]
        rw [hr]
        rfl
    · obtain rfl : j = 15 := by omega
      have e : kIdx (kindNames.drop 15) (15 + 1) s = 0 := rfl
      rw [e, if_pos rfl]
      refine loop_exit ?_ (by simp)
      simp only [kd_st]
      generalize kindNames.map D.str = K at *
      simp -implicitDefEqProofs (maxSteps := 1000000) (disch := omega) only [↓Int.reduceLT, ↓Int.reduceLE, ↓Int.reduceEq, ↓Nat.reduceEqDiff, Nat.reduceBEq, ↓reduceIte, St.toRS, restrict, initEnv, plainArgs, reduceCtorEq, Nat.reduceEqDiff, Nat.reduceAdd, Nat.reduceMul, Int.reduceLT, Int.reduceLE, Int.reduceEq, Int.reduceNeg, Int.reduceAdd, Int.reduceToNat, Int.reduceNe, Nat.reduceSub, Int.reducePow, Int.reduceMul, vb0, vb1, vb2, vb3, vb4, vb5, vb6, vb7, l_scalar_Kind_1]
theorem kind_spec (s : List UInt8) : C M 7 [.d (.str s)] = some (.tup [.int .i64 (kindP s : Nat), .int .i64 (if kindP s = 0 then 12 else 0)]) := by
  rw [c_fn (sf := f_scalar_Kind) rfl rfl ⟨rfl, rfl⟩]
  have h1 := fields_spec
  have hlm : (kindNames.map D.str).length = 15 := rfl
  have hl := kd_loop s 15 0 (by omega) (by omega)
  simp only [kd_st, List.drop_zero, Nat.zero_add, Int.cast_ofNat_Int] at hl
  simp only [fieldsText] at h1
  by_cases hr : kindP s = 0
  · rw [if_pos (show kIdx kindNames 1 s = 0 from hr)] at hl
    simp only [hr, if_pos]
    clear hr
    generalize kindNames.map D.str = K at *
    simp -implicitDefEqProofs (maxSteps := 1000000) (disch := omega) only [↓Int.reduceLT, ↓Int.reduceLE, ↓Int.reduceEq, ↓Nat.reduceEqDiff, Nat.reduceBEq, ↓reduceIte, St.toRS, restrict, initEnv, plainArgs, reduceCtorEq, Nat.reduceEqDiff, Nat.reduceAdd, Nat.reduceMul, Int.reduceLT, Int.reduceLE, Int.reduceEq, Int.reduceNeg, Int.reduceAdd, Int.reduceToNat, Int.reduceNe, Nat.reduceSub, Int.reducePow, Int.reduceMul, vb0, vb1, vb2, vb3, vb4, vb5, vb6, vb7, f_scalar_Kind, h1, hlm, hl]
  · rw [if_neg (show ¬ kIdx kindNames 1 s = 0 from hr), show kIdx kindNames 1 s = kindP s from rfl] at hl
    rw [if_neg hr]
    generalize kindP s = r at *
    generalize kindNames.map D.str = K at *
    simp -implicitDefEqProofs (maxSteps := 1000000) (disch := omega) only [↓Int.reduceLT, ↓Int.reduceLE, ↓Int.reduceEq, ↓Nat.reduceEqDiff, Nat.reduceBEq, ↓reduceIte, St.toRS, restrict, initEnv, plainArgs, reduceCtorEq, Nat.reduceEqDiff, Nat.reduceAdd, Nat.reduceMul, Int.reduceLT, Int.reduceLE, Int.reduceEq, Int.reduceNeg, Int.reduceAdd, Int.reduceToNat, Int.reduceNe, Nat.reduceSub, Int.reducePow, Int.reduceMul, vb0, vb1, vb2, vb3, vb4, vb5, vb6, vb7, f_scalar_Kind, h1, hlm, hl, hr]
def nameP (k : Int) : List UInt8 := if 1 ≤ k ∧ k ≤ 15 then kindNames.getD (k - 1).toNat [] else []
theorem name_spec (k : Int) : C M 6 [.d (.int .i64 k)] = some (.tup [.str (nameP k), .int .i64 (if 1 ≤ k ∧ k ≤ 15 then 0 else 18)]) := by
  rw [c_fn (sf := f_scalar_Name) rfl rfl ⟨rfl, rfl⟩]
  have h1 := fields_spec
  simp only [fieldsText] at h1
  by_cases c1 : k < 1
  · have e : ¬ (1 ≤ k ∧ k ≤ 15) := by omega
    simp only [nameP, if_neg e]
    simp -implicitDefEqProofs (maxSteps := 1000000) (disch := omega) only [↓Int.reduceLT, ↓Int.reduceLE, ↓Int.reduceEq, ↓Nat.reduceEqDiff, Nat.reduceBEq, ↓reduceIte, St.toRS, restrict, initEnv, plainArgs, reduceCtorEq, Nat.reduceEqDiff, Nat.reduceAdd, Nat.reduceMul, Int.reduceLT, Int.reduceLE, Int.reduceEq, Int.reduceNeg, Int.reduceAdd, Int.reduceToNat, Int.reduceNe, Nat.reduceSub, Int.reducePow, Int.reduceMul, vb0, vb1, vb2, vb3, vb4, vb5, vb6, vb7, f_scalar_Name]
  by_cases c2 : 15 < k
  · have e : ¬ (1 ≤ k ∧ k ≤ 15) := by omega
    simp only [nameP, if_neg e]
    simp -implicitDefEqProofs (maxSteps := 1000000) (disch := omega) only [↓Int.reduceLT, ↓Int.reduceLE, ↓Int.reduceEq, ↓Nat.reduceEqDiff, Nat.reduceBEq, ↓reduceIte, St.toRS, restrict, initEnv, plainArgs, reduceCtorEq, Nat.reduceEqDiff, Nat.reduceAdd, Nat.reduceMul, Int.reduceLT, Int.reduceLE, Int.reduceEq, Int.reduceNeg, Int.reduceAdd, Int.reduceToNat, Int.reduceNe, Nat.reduceSub, Int.reducePow, Int.reduceMul, vb0, vb1, vb2, vb3, vb4, vb5, vb6, vb7, f_scalar_Name]
  have e : 1 ≤ k ∧ k ≤ 15 := by omega
  have hl : kindNames.length = 15 := rfl
  obtain ⟨j, rfl, hj⟩ : ∃ j : Nat, k = (j : Int) + 1 ∧ j < 15 := ⟨(k - 1).toNat, by omega, by omega⟩
  have hg : (kindNames.map D.str)[j]? = some (.str (kindNames[j]'(by omega))) := by rw [List.getElem?_map]; simp [hl, hj]
  have en : nameP ((j : Int) + 1) = kindNames[j]'(by omega) := by
    simp only [nameP, if_pos e, show ((j : Int) + 1 - 1).toNat = j by omega, List.getD]
    rw [List.getElem?_eq_getElem (by omega), Option.getD_some]
  rw [en, if_pos e]
  generalize kindNames[j]'(by omega) = x at *
  generalize kindNames.map D.str = K at *
  have s1 : j + 1 - 1 = j := by omega
  simp -implicitDefEqProofs (maxSteps := 1000000) (disch := omega) only [↓Int.reduceLT, ↓Int.reduceLE, ↓Int.reduceEq, ↓Nat.reduceEqDiff, Nat.reduceBEq, ↓reduceIte, St.toRS, restrict, initEnv, plainArgs, reduceCtorEq, Nat.reduceEqDiff, Nat.reduceAdd, Nat.reduceMul, Int.reduceLT, Int.reduceLE, Int.reduceEq, Int.reduceNeg, Int.reduceAdd, Int.reduceToNat, Int.reduceNe, Nat.reduceSub, Int.reducePow, Int.reduceMul, vb0, vb1, vb2, vb3, vb4, vb5, vb6, vb7, f_scalar_Name, h1, s1, hg]

/-! ### The reference's names -/
def rk_st (s : List UInt8) (j : Nat) : St := { env := [(0, .d (.str s)), (3, .lref 3 0), (4, .d (.int .i64 j))], bx := [(3, .str [] :: kindNames.map D.str)] }
theorem set_all (l : List D) : ∀ (cs : List D), cs.length = l.length → setAt cs 0 l = l := by
  have gen : ∀ (l cs : List D) (k : Nat), cs.length = k + l.length → setAt cs k l = cs.take k ++ l := by
    intro l
    induction l with
    | nil => intro cs k h; simp [setAt, List.take_of_length_le (show cs.length ≤ k by simpa using Nat.le_of_eq h)]
    | cons x l ih =>
      intro cs k h
      simp only [List.length_cons] at h
      rw [setAt, ih (cs.set k x) (k + 1) (by simp; omega)]
      rw [List.take_add_one]
      simp only [List.take_set_of_le (Nat.le_refl k), List.getElem?_set]
      simp [show k < cs.length by omega]
  intro cs h
  have := gen l cs 0 (by simpa using h)
  simpa using this
end Go.Proofs.YtedncpnkbpbchaaGreatDoor
