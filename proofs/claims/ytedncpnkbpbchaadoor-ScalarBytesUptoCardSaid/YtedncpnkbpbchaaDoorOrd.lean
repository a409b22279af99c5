/-
  Keys against keys, and the laws ScalarOrders and ScalarChain: over data.
-/
import Derived.Test.YtedncpnkbpbchaaDoorKind
set_option linter.unusedVariables false
set_option linter.unusedSimpArgs false
set_option maxRecDepth 100000
set_option maxHeartbeats 8000000
namespace Go.Proofs.YtedncpnkbpbchaaDoor
open Go.Vi
variable {q : Bool}

/-! ### Orders -/
def cmpI (x y : Int) : Int := if x < y then -1 else if y < x then 1 else 0
theorem cmpI_or (x y : Int) : (x < y ∧ cmpI x y = -1) ∨ (y < x ∧ cmpI x y = 1) ∨ (x = y ∧ cmpI x y = 0) := by
  simp only [cmpI]
  split
  · left; exact ⟨by assumption, rfl⟩
  · split
    · right; left; exact ⟨by assumption, rfl⟩
    · right; right; exact ⟨by omega, rfl⟩
theorem lt_nat (a b : UInt8) : a < b ↔ a.toNat < b.toNat := UInt8.lt_iff_toNat_lt
theorem cmpB_or : ∀ (a b : List UInt8), Lib.compareBytes a b = -1 ∨ Lib.compareBytes a b = 0 ∨ Lib.compareBytes a b = 1
  | [], [] => by simp [Lib.compareBytes]
  | [], _ :: _ => by simp [Lib.compareBytes]
  | _ :: _, [] => by simp [Lib.compareBytes]
  | a :: x, b :: y => by
    have := cmpB_or x y
    simp only [Lib.compareBytes]
    split
    · simp
    · split
      · simp
      · exact this
theorem cmpB_anti : ∀ (a b : List UInt8), Lib.compareBytes b a = - Lib.compareBytes a b
  | [], [] => rfl
  | [], _ :: _ => rfl
  | _ :: _, [] => rfl
  | a :: x, b :: y => by
    have := cmpB_anti x y
    simp only [Lib.compareBytes, lt_nat]
    split
    · rw [if_neg (by omega)]
    · split
      · rfl
      · exact this
theorem cmpB_zero : ∀ (a b : List UInt8), Lib.compareBytes a b = 0 ↔ a = b
  | [], [] => by simp [Lib.compareBytes]
  | [], _ :: _ => by simp [Lib.compareBytes]
  | _ :: _, [] => by simp [Lib.compareBytes]
  | a :: x, b :: y => by
    have := cmpB_zero x y
    simp only [Lib.compareBytes, lt_nat, List.cons.injEq]
    split
    · rename_i h
      constructor
      · intro h0; simp at h0
      · rintro ⟨rfl, _⟩; omega
    · split
      · constructor
        · intro h0; simp at h0
        · rintro ⟨rfl, _⟩; omega
      · have e : a = b := UInt8.toNat_inj.1 (by omega)
        simp [e, this]
theorem cmpB_trans : ∀ (a b c : List UInt8), Lib.compareBytes a b ≤ 0 → Lib.compareBytes b c ≤ 0 → Lib.compareBytes a c ≤ 0 ∧ (Lib.compareBytes a b = 0 ∧ Lib.compareBytes b c = 0 ∨ Lib.compareBytes a c < 0)
  | [], [], [], _, _ => by simp [Lib.compareBytes]
  | [], [], _ :: _, _, _ => by simp [Lib.compareBytes]
  | [], _ :: _, [], _, h => by simp [Lib.compareBytes] at h
  | [], _ :: _, _ :: _, _, _ => by simp [Lib.compareBytes]
  | _ :: _, [], _, h, _ => by simp [Lib.compareBytes] at h
  | _ :: _, _ :: _, [], _, h => by simp [Lib.compareBytes] at h
  | a :: x, b :: y, c :: z, h1, h2 => by
    have ih := cmpB_trans x y z
    simp only [Lib.compareBytes, lt_nat] at h1 h2 ⊢
    by_cases hab : a.toNat < b.toNat
    · by_cases hbc : b.toNat < c.toNat
      · rw [if_pos (show a.toNat < c.toNat by omega)]; simp
      · rw [if_neg hbc] at h2
        by_cases hcb : c.toNat < b.toNat
        · rw [if_pos hcb] at h2; omega
        · rw [if_pos (show a.toNat < c.toNat by omega)]; simp
    · rw [if_neg hab] at h1 ⊢
      by_cases hba : b.toNat < a.toNat
      · rw [if_pos hba] at h1; omega
      · rw [if_neg hba] at h1 ⊢
        by_cases hbc : b.toNat < c.toNat
        · rw [if_pos (show a.toNat < c.toNat by omega)]; simp
        · rw [if_neg hbc] at h2 ⊢
          by_cases hcb : c.toNat < b.toNat
          · rw [if_pos hcb] at h2; omega
          · rw [if_neg hcb] at h2 ⊢
            rw [if_neg (show ¬ a.toNat < c.toNat by omega), if_neg (show ¬ c.toNat < a.toNat by omega)]
            exact ih h1 h2
theorem less_cmp : ∀ (a b : List UInt8), Op.bytesLess a b = decide (Lib.compareBytes a b = -1)
  | [], [] => rfl
  | [], _ :: _ => rfl
  | _ :: _, [] => rfl
  | a :: x, b :: y => by
    have := less_cmp x y
    simp only [Op.bytesLess, Lib.compareBytes, lt_nat, this]
    by_cases h1 : a.toNat < b.toNat
    · simp [h1]
    · by_cases h2 : b.toNat < a.toNat
      · have : ¬ a = b := by rintro rfl; omega
        simp [h1, h2, this]
      · have : a = b := UInt8.toNat_inj.1 (by omega)
        simp [this]

/-! ### Keys -/
def cmpP (k n : Int) (b : List UInt8) (n' : Int) (b' : List UInt8) : Int := if k = 14 then Lib.compareBytes b b' else if signedB k then cmpI (sgn n) (sgn n') else cmpI n n'
theorem nan_spec (n : Int) : C (M q) 68 [.d (.int .i64 n)] = some (.d (.bool false)) := by
  rw [c_fn (sf := f_cmp_isNaN_int64_) rfl rfl ⟨rfl, rfl⟩]
  simp -implicitDefEqProofs (maxSteps := 1000000) (disch := omega) only [↓Int.reduceLT, ↓Int.reduceLE, ↓Int.reduceEq, ↓Nat.reduceEqDiff, Nat.reduceBEq, ↓reduceIte, St.toRS, restrict, initEnv, plainArgs, reduceCtorEq, Nat.reduceEqDiff, Nat.reduceAdd, Nat.reduceMul, Int.reduceLT, Int.reduceLE, Int.reduceEq, Int.reduceNeg, Int.reduceAdd, Int.reduceToNat, Int.reduceNe, Nat.reduceSub, Int.reducePow, Int.reduceMul, vb0, vb1, vb2, vb3, vb4, vb5, vb6, vb7, f_cmp_isNaN_int64_]
theorem nanu_spec (n : Int) : C (M q) 69 [.d (.int .u64 n)] = some (.d (.bool false)) := by
  rw [c_fn (sf := f_cmp_isNaN_uint64_) rfl rfl ⟨rfl, rfl⟩]
  simp -implicitDefEqProofs (maxSteps := 1000000) (disch := omega) only [↓Int.reduceLT, ↓Int.reduceLE, ↓Int.reduceEq, ↓Nat.reduceEqDiff, Nat.reduceBEq, ↓reduceIte, St.toRS, restrict, initEnv, plainArgs, reduceCtorEq, Nat.reduceEqDiff, Nat.reduceAdd, Nat.reduceMul, Int.reduceLT, Int.reduceLE, Int.reduceEq, Int.reduceNeg, Int.reduceAdd, Int.reduceToNat, Int.reduceNe, Nat.reduceSub, Int.reducePow, Int.reduceMul, vb0, vb1, vb2, vb3, vb4, vb5, vb6, vb7, f_cmp_isNaN_uint64_]
theorem cmp64_spec (x y : Int) : C (M q) 54 [.d (.int .i64 x), .d (.int .i64 y)] = some (.d (.int .i64 (cmpI x y))) := by
  rw [c_fn (sf := f_cmp_Compare_int64_) rfl rfl ⟨rfl, rfl⟩]
  have a := nan_spec (q := q) x
  have b := nan_spec (q := q) y
  rcases cmpI_or x y with ⟨h, e⟩ | ⟨h, e⟩ | ⟨h, e⟩
  · simp -implicitDefEqProofs (maxSteps := 1000000) (disch := omega) only [↓Int.reduceLT, ↓Int.reduceLE, ↓Int.reduceEq, ↓Nat.reduceEqDiff, Nat.reduceBEq, ↓reduceIte, St.toRS, restrict, initEnv, plainArgs, reduceCtorEq, Nat.reduceEqDiff, Nat.reduceAdd, Nat.reduceMul, Int.reduceLT, Int.reduceLE, Int.reduceEq, Int.reduceNeg, Int.reduceAdd, Int.reduceToNat, Int.reduceNe, Nat.reduceSub, Int.reducePow, Int.reduceMul, vb0, vb1, vb2, vb3, vb4, vb5, vb6, vb7, f_cmp_Compare_int64_, a, b, e]
  · simp -implicitDefEqProofs (maxSteps := 1000000) (disch := omega) only [↓Int.reduceLT, ↓Int.reduceLE, ↓Int.reduceEq, ↓Nat.reduceEqDiff, Nat.reduceBEq, ↓reduceIte, St.toRS, restrict, initEnv, plainArgs, reduceCtorEq, Nat.reduceEqDiff, Nat.reduceAdd, Nat.reduceMul, Int.reduceLT, Int.reduceLE, Int.reduceEq, Int.reduceNeg, Int.reduceAdd, Int.reduceToNat, Int.reduceNe, Nat.reduceSub, Int.reducePow, Int.reduceMul, vb0, vb1, vb2, vb3, vb4, vb5, vb6, vb7, f_cmp_Compare_int64_, a, b, e]
  · simp -implicitDefEqProofs (maxSteps := 1000000) (disch := omega) only [↓Int.reduceLT, ↓Int.reduceLE, ↓Int.reduceEq, ↓Nat.reduceEqDiff, Nat.reduceBEq, ↓reduceIte, St.toRS, restrict, initEnv, plainArgs, reduceCtorEq, Nat.reduceEqDiff, Nat.reduceAdd, Nat.reduceMul, Int.reduceLT, Int.reduceLE, Int.reduceEq, Int.reduceNeg, Int.reduceAdd, Int.reduceToNat, Int.reduceNe, Nat.reduceSub, Int.reducePow, Int.reduceMul, vb0, vb1, vb2, vb3, vb4, vb5, vb6, vb7, f_cmp_Compare_int64_, a, b, e]
theorem cmpu_spec (x y : Int) : C (M q) 55 [.d (.int .u64 x), .d (.int .u64 y)] = some (.d (.int .i64 (cmpI x y))) := by
  rw [c_fn (sf := f_cmp_Compare_uint64_) rfl rfl ⟨rfl, rfl⟩]
  have a := nanu_spec (q := q) x
  have b := nanu_spec (q := q) y
  rcases cmpI_or x y with ⟨h, e⟩ | ⟨h, e⟩ | ⟨h, e⟩
  · simp -implicitDefEqProofs (maxSteps := 1000000) (disch := omega) only [↓Int.reduceLT, ↓Int.reduceLE, ↓Int.reduceEq, ↓Nat.reduceEqDiff, Nat.reduceBEq, ↓reduceIte, St.toRS, restrict, initEnv, plainArgs, reduceCtorEq, Nat.reduceEqDiff, Nat.reduceAdd, Nat.reduceMul, Int.reduceLT, Int.reduceLE, Int.reduceEq, Int.reduceNeg, Int.reduceAdd, Int.reduceToNat, Int.reduceNe, Nat.reduceSub, Int.reducePow, Int.reduceMul, vb0, vb1, vb2, vb3, vb4, vb5, vb6, vb7, f_cmp_Compare_uint64_, a, b, e]
  · simp -implicitDefEqProofs (maxSteps := 1000000) (disch := omega) only [↓Int.reduceLT, ↓Int.reduceLE, ↓Int.reduceEq, ↓Nat.reduceEqDiff, Nat.reduceBEq, ↓reduceIte, St.toRS, restrict, initEnv, plainArgs, reduceCtorEq, Nat.reduceEqDiff, Nat.reduceAdd, Nat.reduceMul, Int.reduceLT, Int.reduceLE, Int.reduceEq, Int.reduceNeg, Int.reduceAdd, Int.reduceToNat, Int.reduceNe, Nat.reduceSub, Int.reducePow, Int.reduceMul, vb0, vb1, vb2, vb3, vb4, vb5, vb6, vb7, f_cmp_Compare_uint64_, a, b, e]
  · simp -implicitDefEqProofs (maxSteps := 1000000) (disch := omega) only [↓Int.reduceLT, ↓Int.reduceLE, ↓Int.reduceEq, ↓Nat.reduceEqDiff, Nat.reduceBEq, ↓reduceIte, St.toRS, restrict, initEnv, plainArgs, reduceCtorEq, Nat.reduceEqDiff, Nat.reduceAdd, Nat.reduceMul, Int.reduceLT, Int.reduceLE, Int.reduceEq, Int.reduceNeg, Int.reduceAdd, Int.reduceToNat, Int.reduceNe, Nat.reduceSub, Int.reducePow, Int.reduceMul, vb0, vb1, vb2, vb3, vb4, vb5, vb6, vb7, f_cmp_Compare_uint64_, a, b, e]
theorem bcmp_spec (a b : List UInt8) : C (M q) 52 [.d (.slice 1 (bytesD a)), .d (.slice 1 (bytesD b))] = some (.d (.int .i64 (Lib.compareBytes a b))) := by
  rw [C_prim (p := cmpPrim) rfl]
  show cmpPrim [.slice 1 (bytesD a), .slice 1 (bytesD b)] = _
  simp only [cmpPrim, bytesOf_bytesD, Option.bind_some]
/-- What scalar.Compare answers. -/
def compP (k n : Int) (b : List UInt8) (ms : List D) (n' : Int) (b' : List UInt8) (ms' : List D) : Int × Int :=
  if isKeyB k = false then (0, 18) else if fitsB k n b ms && fitsB k n' b' ms' then (cmpP k n b n' b', 0) else (0, 7)
abbrev okN (n : Int) : Prop := 0 ≤ n ∧ n ≤ 18446744073709551615
theorem compare_spec (k n n' : Int) (b b' : List UInt8) (ms ms' : List D) (h : okN n) (h' : okN n') :
    C (M q) 14 [.d (.int .i64 k), .d (valD n b ms), .d (valD n' b' ms')] = some (.tup [.int .i64 (compP k n b ms n' b' ms').1, .int .i64 (compP k n b ms n' b' ms').2]) := by
  rw [c_fn (sf := f_scalar_Compare) rfl rfl ⟨rfl, rfl⟩]
  have w1 := isKey_spec (q := q) k
  have w2 := fits_spec (q := q) k n b ms h.1 h.2
  have w3 := fits_spec (q := q) k n' b' ms' h'.1 h'.2
  have w4 := signed_spec (q := q) k
  have w5 := bcmp_spec (q := q) b b'
  have w6 := cmp64_spec (q := q) (sgn n) (sgn n')
  have w7 := cmpu_spec (q := q) n n'
  have s1 := wrap_sgn h.1 h.2
  have s2 := wrap_sgn h'.1 h'.2
  simp only [valD] at w2 w3 ⊢
  generalize ms.length = L at *
  cases e1 : isKeyB k with
  | false => rw [e1] at w1; simp -implicitDefEqProofs (maxSteps := 1000000) (disch := omega) only [↓Int.reduceLT, ↓Int.reduceLE, ↓Int.reduceEq, ↓Nat.reduceEqDiff, Nat.reduceBEq, ↓reduceIte, St.toRS, restrict, initEnv, plainArgs, reduceCtorEq, Nat.reduceEqDiff, Nat.reduceAdd, Nat.reduceMul, Int.reduceLT, Int.reduceLE, Int.reduceEq, Int.reduceNeg, Int.reduceAdd, Int.reduceToNat, Int.reduceNe, Nat.reduceSub, Int.reducePow, Int.reduceMul, vb0, vb1, vb2, vb3, vb4, vb5, vb6, vb7, f_scalar_Compare, w1, compP, e1]
  | true =>
    rw [e1] at w1
    cases e2 : fitsB k n b ms with
    | false => rw [e2] at w2; simp -implicitDefEqProofs (maxSteps := 1000000) (disch := omega) only [↓Int.reduceLT, ↓Int.reduceLE, ↓Int.reduceEq, ↓Nat.reduceEqDiff, Nat.reduceBEq, ↓reduceIte, St.toRS, restrict, initEnv, plainArgs, reduceCtorEq, Nat.reduceEqDiff, Nat.reduceAdd, Nat.reduceMul, Int.reduceLT, Int.reduceLE, Int.reduceEq, Int.reduceNeg, Int.reduceAdd, Int.reduceToNat, Int.reduceNe, Nat.reduceSub, Int.reducePow, Int.reduceMul, vb0, vb1, vb2, vb3, vb4, vb5, vb6, vb7, f_scalar_Compare, w1, w2, compP, e1, e2, sub, List.drop_zero, List.take_succ_cons, List.take_zero]
    | true =>
      rw [e2] at w2
      cases e3 : fitsB k n' b' ms' with
      | false => rw [e3] at w3; simp -implicitDefEqProofs (maxSteps := 1000000) (disch := omega) only [↓Int.reduceLT, ↓Int.reduceLE, ↓Int.reduceEq, ↓Nat.reduceEqDiff, Nat.reduceBEq, ↓reduceIte, St.toRS, restrict, initEnv, plainArgs, reduceCtorEq, Nat.reduceEqDiff, Nat.reduceAdd, Nat.reduceMul, Int.reduceLT, Int.reduceLE, Int.reduceEq, Int.reduceNeg, Int.reduceAdd, Int.reduceToNat, Int.reduceNe, Nat.reduceSub, Int.reducePow, Int.reduceMul, vb0, vb1, vb2, vb3, vb4, vb5, vb6, vb7, f_scalar_Compare, w1, w2, w3, compP, e1, e2, e3, sub, List.drop_zero, List.take_succ_cons, List.take_zero]
      | true =>
        rw [e3] at w3
        by_cases c : k = 14
        · subst c
          simp -implicitDefEqProofs (maxSteps := 1000000) (disch := omega) only [↓Int.reduceLT, ↓Int.reduceLE, ↓Int.reduceEq, ↓Nat.reduceEqDiff, Nat.reduceBEq, ↓reduceIte, St.toRS, restrict, initEnv, plainArgs, reduceCtorEq, Nat.reduceEqDiff, Nat.reduceAdd, Nat.reduceMul, Int.reduceLT, Int.reduceLE, Int.reduceEq, Int.reduceNeg, Int.reduceAdd, Int.reduceToNat, Int.reduceNe, Nat.reduceSub, Int.reducePow, Int.reduceMul, vb0, vb1, vb2, vb3, vb4, vb5, vb6, vb7, f_scalar_Compare, w1, w2, w3, w5, compP, cmpP, e1, e2, e3, sub, List.drop_zero, List.take_succ_cons, List.take_zero, List.getElem?_cons_zero, List.getElem?_cons_succ]
        · cases e4 : signedB k with
          | true => rw [e4] at w4; simp -implicitDefEqProofs (maxSteps := 1000000) (disch := omega) only [↓Int.reduceLT, ↓Int.reduceLE, ↓Int.reduceEq, ↓Nat.reduceEqDiff, Nat.reduceBEq, ↓reduceIte, St.toRS, restrict, initEnv, plainArgs, reduceCtorEq, Nat.reduceEqDiff, Nat.reduceAdd, Nat.reduceMul, Int.reduceLT, Int.reduceLE, Int.reduceEq, Int.reduceNeg, Int.reduceAdd, Int.reduceToNat, Int.reduceNe, Nat.reduceSub, Int.reducePow, Int.reduceMul, vb0, vb1, vb2, vb3, vb4, vb5, vb6, vb7, f_scalar_Compare, w1, w2, w3, w4, w6, s1, s2, compP, cmpP, e1, e2, e3, e4, sub, List.drop_zero, List.take_succ_cons, List.take_zero, List.getElem?_cons_zero, List.getElem?_cons_succ]
          | false => rw [e4] at w4; simp -implicitDefEqProofs (maxSteps := 1000000) (disch := omega) only [↓Int.reduceLT, ↓Int.reduceLE, ↓Int.reduceEq, ↓Nat.reduceEqDiff, Nat.reduceBEq, ↓reduceIte, St.toRS, restrict, initEnv, plainArgs, reduceCtorEq, Nat.reduceEqDiff, Nat.reduceAdd, Nat.reduceMul, Int.reduceLT, Int.reduceLE, Int.reduceEq, Int.reduceNeg, Int.reduceAdd, Int.reduceToNat, Int.reduceNe, Nat.reduceSub, Int.reducePow, Int.reduceMul, vb0, vb1, vb2, vb3, vb4, vb5, vb6, vb7, f_scalar_Compare, w1, w2, w3, w4, w7, compP, cmpP, e1, e2, e3, e4, sub, List.drop_zero, List.take_succ_cons, List.take_zero, List.getElem?_cons_zero, List.getElem?_cons_succ]

theorem xor_top {n : Int} (h : okN n) : bitsD .xor .u64 n 9223372036854775808 = sgn n + 9223372036854775808 := by
  obtain ⟨a, ha⟩ : ∃ a : Nat, n = a := ⟨n.toNat, by omega⟩
  subst ha
  have hb := xor_u64 (a := a) (b := 9223372036854775808) (by omega) (by omega)
  have e : ((9223372036854775808 : Nat) : Int) = 9223372036854775808 := rfl
  rw [e] at hb
  rw [hb]
  have low : ∀ m : Nat, m < 2 ^ 63 → m ^^^ 2 ^ 63 = m + 2 ^ 63 := by
    intro m hm
    have h1 := Nat.two_pow_add_eq_or_of_lt hm 1
    rw [Nat.mul_one] at h1
    rw [Nat.add_comm, h1]
    apply Nat.eq_of_testBit_eq
    intro i
    rw [Nat.testBit_xor, Nat.testBit_or, Nat.testBit_two_pow]
    by_cases hi : 63 = i
    · subst hi
      rw [Nat.testBit_lt_two_pow hm]
      simp
    · simp [hi]
  have big : (2 : Nat) ^ 63 = 9223372036854775808 := by decide
  rcases Nat.lt_or_ge a (2 ^ 63) with hlt | hge
  · have := low a hlt
    rw [big] at this
    rw [this]
    simp only [sgn]
    rw [if_pos (by omega)]
    omega
  · obtain ⟨c, rfl⟩ : ∃ c, a = c + 2 ^ 63 := ⟨a - 2 ^ 63, by omega⟩
    have hc : c < 2 ^ 63 := by omega
    have h1 := low c hc
    rw [← h1]
    have h2 : (c ^^^ 2 ^ 63) ^^^ 9223372036854775808 = c := by rw [← big, Nat.xor_assoc, Nat.xor_self, Nat.xor_zero]
    rw [h2, h1]
    simp only [sgn]
    rw [if_neg (by omega)]
    omega
theorem rcompare_spec (k n n' : Int) (b b' : List UInt8) (ms ms' : List D) (h : okN n) (h' : okN n') (hk : isKeyB k = true) :
    C (M q) 17 [.d (.int .i64 k), .d (valD n b ms), .d (valD n' b' ms')] = some (.d (.int .i64 (cmpP k n b n' b'))) := by
  rw [c_fn (sf := f_ref3_Compare) rfl rfl ⟨rfl, rfl⟩]
  have w4 := rsigned_spec (q := q) k
  have s1 := xor_top h
  have s2 := xor_top h'
  have es : rsignedB k = signedB k := by
    simp only [isKeyB, decide_eq_true_eq] at hk
    simp only [rsignedB, signedB]
    exact decide_eq_decide.2 (by omega)
  rw [es] at w4
  simp only [valD]
  by_cases c : k = 14
  · have l1 := less_cmp b b'
    rcases cmpB_or b b' with e | e | e
    · rw [e] at l1
      simp -implicitDefEqProofs (maxSteps := 1000000) (disch := omega) only [↓Int.reduceLT, ↓Int.reduceLE, ↓Int.reduceEq, ↓Nat.reduceEqDiff, Nat.reduceBEq, ↓reduceIte, St.toRS, restrict, initEnv, plainArgs, reduceCtorEq, Nat.reduceEqDiff, Nat.reduceAdd, Nat.reduceMul, Int.reduceLT, Int.reduceLE, Int.reduceEq, Int.reduceNeg, Int.reduceAdd, Int.reduceToNat, Int.reduceNe, Nat.reduceSub, Int.reducePow, Int.reduceMul, vb0, vb1, vb2, vb3, vb4, vb5, vb6, vb7, f_ref3_Compare, cmpP, c, e, l1, sub, List.getElem?_cons_zero, List.getElem?_cons_succ, e_cstrB]
    · rw [e] at l1
      have hb := (cmpB_zero b b').1 e
      have hbb : (b == b') = true := by simpa using hb
      simp -implicitDefEqProofs (maxSteps := 1000000) (disch := omega) only [↓Int.reduceLT, ↓Int.reduceLE, ↓Int.reduceEq, ↓Nat.reduceEqDiff, Nat.reduceBEq, ↓reduceIte, St.toRS, restrict, initEnv, plainArgs, reduceCtorEq, Nat.reduceEqDiff, Nat.reduceAdd, Nat.reduceMul, Int.reduceLT, Int.reduceLE, Int.reduceEq, Int.reduceNeg, Int.reduceAdd, Int.reduceToNat, Int.reduceNe, Nat.reduceSub, Int.reducePow, Int.reduceMul, vb0, vb1, vb2, vb3, vb4, vb5, vb6, vb7, f_ref3_Compare, cmpP, c, e, l1, hbb, sub, List.getElem?_cons_zero, List.getElem?_cons_succ, e_cstrB]
    · rw [e] at l1
      have hbb : (b == b') = false := by
        cases hx : (b == b') with
        | false => rfl
        | true =>
          have := (cmpB_zero b b').2 (by simpa using hx)
          omega
      simp -implicitDefEqProofs (maxSteps := 1000000) (disch := omega) only [↓Int.reduceLT, ↓Int.reduceLE, ↓Int.reduceEq, ↓Nat.reduceEqDiff, Nat.reduceBEq, ↓reduceIte, St.toRS, restrict, initEnv, plainArgs, reduceCtorEq, Nat.reduceEqDiff, Nat.reduceAdd, Nat.reduceMul, Int.reduceLT, Int.reduceLE, Int.reduceEq, Int.reduceNeg, Int.reduceAdd, Int.reduceToNat, Int.reduceNe, Nat.reduceSub, Int.reducePow, Int.reduceMul, vb0, vb1, vb2, vb3, vb4, vb5, vb6, vb7, f_ref3_Compare, cmpP, c, e, l1, hbb, sub, List.getElem?_cons_zero, List.getElem?_cons_succ, e_cstrB]
  · cases e4 : signedB k with
    | true =>
      rw [e4] at w4
      rcases cmpI_or (sgn n) (sgn n') with ⟨g, e⟩ | ⟨g, e⟩ | ⟨g, e⟩ <;> simp -implicitDefEqProofs (maxSteps := 1000000) (disch := omega) only [↓Int.reduceLT, ↓Int.reduceLE, ↓Int.reduceEq, ↓Nat.reduceEqDiff, Nat.reduceBEq, ↓reduceIte, St.toRS, restrict, initEnv, plainArgs, reduceCtorEq, Nat.reduceEqDiff, Nat.reduceAdd, Nat.reduceMul, Int.reduceLT, Int.reduceLE, Int.reduceEq, Int.reduceNeg, Int.reduceAdd, Int.reduceToNat, Int.reduceNe, Nat.reduceSub, Int.reducePow, Int.reduceMul, vb0, vb1, vb2, vb3, vb4, vb5, vb6, vb7, f_ref3_Compare, w4, s1, s2, cmpP, e4, e, sub, List.getElem?_cons_zero, List.getElem?_cons_succ]
    | false =>
      rw [e4] at w4
      rcases cmpI_or n n' with ⟨g, e⟩ | ⟨g, e⟩ | ⟨g, e⟩ <;> simp -implicitDefEqProofs (maxSteps := 1000000) (disch := omega) only [↓Int.reduceLT, ↓Int.reduceLE, ↓Int.reduceEq, ↓Nat.reduceEqDiff, Nat.reduceBEq, ↓reduceIte, St.toRS, restrict, initEnv, plainArgs, reduceCtorEq, Nat.reduceEqDiff, Nat.reduceAdd, Nat.reduceMul, Int.reduceLT, Int.reduceLE, Int.reduceEq, Int.reduceNeg, Int.reduceAdd, Int.reduceToNat, Int.reduceNe, Nat.reduceSub, Int.reducePow, Int.reduceMul, vb0, vb1, vb2, vb3, vb4, vb5, vb6, vb7, f_ref3_Compare, w4, cmpP, e4, e, sub, List.getElem?_cons_zero, List.getElem?_cons_succ]

theorem orders_data (k n n' : Int) (b b' : List UInt8) (ms ms' : List D) (h : okN n) (h' : okN n') :
    C (M q) n_law3_ScalarOrders [.d (.int .i64 k), .d (valD n b ms), .d (valD n' b' ms')] = some (.d (.bool true)) := by
  rw [c_fn (sf := f_law3_ScalarOrders) rfl rfl ⟨rfl, rfl⟩]
  have w0 := awake_data (k := q)
  have w1 := compare_spec (q := q) k n n' b b' ms ms' h h'
  have w2 := risKey_spec (q := q) k
  have w3 := rfits_spec (q := q) k n b ms h.1 h.2
  have w4 := rfits_spec (q := q) k n' b' ms' h'.1 h'.2
  simp only [valD, compP] at w1 w3 w4 ⊢
  cases e1 : isKeyB k with
  | false => rw [e1] at w2; simp only [e1, if_true] at w1; simp -implicitDefEqProofs (maxSteps := 1000000) (disch := omega) only [↓Int.reduceLT, ↓Int.reduceLE, ↓Int.reduceEq, ↓Nat.reduceEqDiff, Nat.reduceBEq, ↓reduceIte, St.toRS, restrict, initEnv, plainArgs, reduceCtorEq, Nat.reduceEqDiff, Nat.reduceAdd, Nat.reduceMul, Int.reduceLT, Int.reduceLE, Int.reduceEq, Int.reduceNeg, Int.reduceAdd, Int.reduceToNat, Int.reduceNe, Nat.reduceSub, Int.reducePow, Int.reduceMul, vb0, vb1, vb2, vb3, vb4, vb5, vb6, vb7, f_law3_ScalarOrders, w0, w1, w2, sub, List.drop_zero, List.take_succ_cons, List.take_zero, List.getElem?_cons_zero, List.getElem?_cons_succ]
  | true =>
    have w5 := rcompare_spec (q := q) k n n' b b' ms ms' h h' e1
    simp only [valD] at w5
    rw [e1] at w2
    simp only [e1, Bool.true_eq_false, if_false] at w1
    cases e2 : fitsB k n b ms with
    | false =>
      rw [e2] at w3
      simp only [e2, Bool.false_and, Bool.false_eq_true, if_false] at w1
      simp -implicitDefEqProofs (maxSteps := 1000000) (disch := omega) only [↓Int.reduceLT, ↓Int.reduceLE, ↓Int.reduceEq, ↓Nat.reduceEqDiff, Nat.reduceBEq, ↓reduceIte, St.toRS, restrict, initEnv, plainArgs, reduceCtorEq, Nat.reduceEqDiff, Nat.reduceAdd, Nat.reduceMul, Int.reduceLT, Int.reduceLE, Int.reduceEq, Int.reduceNeg, Int.reduceAdd, Int.reduceToNat, Int.reduceNe, Nat.reduceSub, Int.reducePow, Int.reduceMul, vb0, vb1, vb2, vb3, vb4, vb5, vb6, vb7, f_law3_ScalarOrders, w0, w1, w2, w3, sub, List.drop_zero, List.take_succ_cons, List.take_zero, List.getElem?_cons_zero, List.getElem?_cons_succ]
    | true =>
      rw [e2] at w3
      cases e3 : fitsB k n' b' ms' with
      | false =>
        rw [e3] at w4
        simp only [e2, e3, Bool.and_false, Bool.false_eq_true, if_false] at w1
        simp -implicitDefEqProofs (maxSteps := 1000000) (disch := omega) only [↓Int.reduceLT, ↓Int.reduceLE, ↓Int.reduceEq, ↓Nat.reduceEqDiff, Nat.reduceBEq, ↓reduceIte, St.toRS, restrict, initEnv, plainArgs, reduceCtorEq, Nat.reduceEqDiff, Nat.reduceAdd, Nat.reduceMul, Int.reduceLT, Int.reduceLE, Int.reduceEq, Int.reduceNeg, Int.reduceAdd, Int.reduceToNat, Int.reduceNe, Nat.reduceSub, Int.reducePow, Int.reduceMul, vb0, vb1, vb2, vb3, vb4, vb5, vb6, vb7, f_law3_ScalarOrders, w0, w1, w2, w3, w4, sub, List.drop_zero, List.take_succ_cons, List.take_zero, List.getElem?_cons_zero, List.getElem?_cons_succ]
      | true =>
        rw [e3] at w4
        simp only [e2, e3, Bool.and_self, if_true] at w1
        simp -implicitDefEqProofs (maxSteps := 1000000) (disch := omega) only [↓Int.reduceLT, ↓Int.reduceLE, ↓Int.reduceEq, ↓Nat.reduceEqDiff, Nat.reduceBEq, ↓reduceIte, St.toRS, restrict, initEnv, plainArgs, reduceCtorEq, Nat.reduceEqDiff, Nat.reduceAdd, Nat.reduceMul, Int.reduceLT, Int.reduceLE, Int.reduceEq, Int.reduceNeg, Int.reduceAdd, Int.reduceToNat, Int.reduceNe, Nat.reduceSub, Int.reducePow, Int.reduceMul, vb0, vb1, vb2, vb3, vb4, vb5, vb6, vb7, f_law3_ScalarOrders, w0, w1, w2, w3, w4, w5, sub, List.drop_zero, List.take_succ_cons, List.take_zero, List.getElem?_cons_zero, List.getElem?_cons_succ]

/-! ### An order -/
def sameB (n : Int) (b : List UInt8) (ms : List D) (n' : Int) (b' : List UInt8) (ms' : List D) : Bool := decide (n = n') && decide (b = b') && decide (ms.length = 0) && decide (ms'.length = 0)
theorem same_spec (n n' : Int) (b b' : List UInt8) (ms ms' : List D) : C (M q) 18 [.d (valD n b ms), .d (valD n' b' ms')] = some (.d (.bool (sameB n b ms n' b' ms'))) := by
  rw [c_fn (sf := f_ref3_Same) rfl rfl ⟨rfl, rfl⟩]
  simp only [valD, sameB]
  by_cases h1 : n = n'
  · by_cases h2 : b = b'
    · by_cases h3 : ms.length = 0
      · by_cases h4 : ms'.length = 0
        · simp -implicitDefEqProofs (maxSteps := 1000000) (disch := omega) only [↓Int.reduceLT, ↓Int.reduceLE, ↓Int.reduceEq, ↓Nat.reduceEqDiff, Nat.reduceBEq, ↓reduceIte, St.toRS, restrict, initEnv, plainArgs, reduceCtorEq, Nat.reduceEqDiff, Nat.reduceAdd, Nat.reduceMul, Int.reduceLT, Int.reduceLE, Int.reduceEq, Int.reduceNeg, Int.reduceAdd, Int.reduceToNat, Int.reduceNe, Nat.reduceSub, Int.reducePow, Int.reduceMul, vb0, vb1, vb2, vb3, vb4, vb5, vb6, vb7, f_ref3_Same, h2, h3, h4, sub, List.getElem?_cons_zero, List.getElem?_cons_succ, e_cstrB]
        · simp -implicitDefEqProofs (maxSteps := 1000000) (disch := omega) only [↓Int.reduceLT, ↓Int.reduceLE, ↓Int.reduceEq, ↓Nat.reduceEqDiff, Nat.reduceBEq, ↓reduceIte, St.toRS, restrict, initEnv, plainArgs, reduceCtorEq, Nat.reduceEqDiff, Nat.reduceAdd, Nat.reduceMul, Int.reduceLT, Int.reduceLE, Int.reduceEq, Int.reduceNeg, Int.reduceAdd, Int.reduceToNat, Int.reduceNe, Nat.reduceSub, Int.reducePow, Int.reduceMul, vb0, vb1, vb2, vb3, vb4, vb5, vb6, vb7, f_ref3_Same, h2, h3, h4, sub, List.getElem?_cons_zero, List.getElem?_cons_succ, e_cstrB]
      · simp -implicitDefEqProofs (maxSteps := 1000000) (disch := omega) only [↓Int.reduceLT, ↓Int.reduceLE, ↓Int.reduceEq, ↓Nat.reduceEqDiff, Nat.reduceBEq, ↓reduceIte, St.toRS, restrict, initEnv, plainArgs, reduceCtorEq, Nat.reduceEqDiff, Nat.reduceAdd, Nat.reduceMul, Int.reduceLT, Int.reduceLE, Int.reduceEq, Int.reduceNeg, Int.reduceAdd, Int.reduceToNat, Int.reduceNe, Nat.reduceSub, Int.reducePow, Int.reduceMul, vb0, vb1, vb2, vb3, vb4, vb5, vb6, vb7, f_ref3_Same, h2, h3, sub, List.getElem?_cons_zero, List.getElem?_cons_succ, e_cstrB]
    · simp -implicitDefEqProofs (maxSteps := 1000000) (disch := omega) only [↓Int.reduceLT, ↓Int.reduceLE, ↓Int.reduceEq, ↓Nat.reduceEqDiff, Nat.reduceBEq, ↓reduceIte, St.toRS, restrict, initEnv, plainArgs, reduceCtorEq, Nat.reduceEqDiff, Nat.reduceAdd, Nat.reduceMul, Int.reduceLT, Int.reduceLE, Int.reduceEq, Int.reduceNeg, Int.reduceAdd, Int.reduceToNat, Int.reduceNe, Nat.reduceSub, Int.reducePow, Int.reduceMul, vb0, vb1, vb2, vb3, vb4, vb5, vb6, vb7, f_ref3_Same, h2, sub, List.getElem?_cons_zero, List.getElem?_cons_succ, e_cstrB]
  · simp -implicitDefEqProofs (maxSteps := 1000000) (disch := omega) only [↓Int.reduceLT, ↓Int.reduceLE, ↓Int.reduceEq, ↓Nat.reduceEqDiff, Nat.reduceBEq, ↓reduceIte, St.toRS, restrict, initEnv, plainArgs, reduceCtorEq, Nat.reduceEqDiff, Nat.reduceAdd, Nat.reduceMul, Int.reduceLT, Int.reduceLE, Int.reduceEq, Int.reduceNeg, Int.reduceAdd, Int.reduceToNat, Int.reduceNe, Nat.reduceSub, Int.reducePow, Int.reduceMul, vb0, vb1, vb2, vb3, vb4, vb5, vb6, vb7, f_ref3_Same, h1, sub, List.getElem?_cons_zero, List.getElem?_cons_succ, e_cstrB]
theorem fits_open {k n : Int} {b : List UInt8} {ms : List D} (h : fitsB k n b ms = true) : ms.length = 0 ∧ (k = 14 ∨ k = 15 → n = 0) ∧ (¬ (k = 14 ∨ k = 15) → b = []) := by
  simp only [fitsB, Bool.and_eq_true, decide_eq_true_eq, knownB] at h
  obtain ⟨⟨hk, hm⟩, hc⟩ := h
  refine ⟨hm, fun hc' => ?_, fun hc' => ?_⟩
  · have e : numericB k = false := by simp only [numericB, decide_eq_false_iff_not]; omega
    rw [e] at hc
    simpa using hc
  · have e : numericB k = true := by simp only [numericB, decide_eq_true_eq]; omega
    rw [e] at hc
    simp only [if_true, Bool.and_eq_true, decide_eq_true_eq] at hc
    exact List.eq_nil_of_length_eq_zero hc.1
theorem cmpP_or (k n n' : Int) (b b' : List UInt8) : cmpP k n b n' b' = -1 ∨ cmpP k n b n' b' = 0 ∨ cmpP k n b n' b' = 1 := by
  simp only [cmpP]
  split
  · exact cmpB_or b b'
  · split
    · rcases cmpI_or (sgn n) (sgn n') with ⟨_, e⟩ | ⟨_, e⟩ | ⟨_, e⟩ <;> rw [e] <;> simp
    · rcases cmpI_or n n' with ⟨_, e⟩ | ⟨_, e⟩ | ⟨_, e⟩ <;> rw [e] <;> simp
theorem cmpP_anti (k n n' : Int) (b b' : List UInt8) : cmpP k n' b' n b = - cmpP k n b n' b' := by
  simp only [cmpP]
  split
  · exact cmpB_anti b b'
  · split
    · have h1 := cmpI_or (sgn n) (sgn n')
      have h2 := cmpI_or (sgn n') (sgn n)
      omega
    · have h1 := cmpI_or n n'
      have h2 := cmpI_or n' n
      omega
theorem cmpP_trans (k n n' n'' : Int) (b b' b'' : List UInt8) (h1 : cmpP k n b n' b' ≤ 0) (h2 : cmpP k n' b' n'' b'' ≤ 0) :
    cmpP k n b n'' b'' ≤ 0 ∧ (cmpP k n b n' b' = 0 ∧ cmpP k n' b' n'' b'' = 0 ∨ cmpP k n b n'' b'' < 0) := by
  simp only [cmpP] at *
  split at h1
  · rename_i hk
    rw [if_pos hk] at h2 ⊢
    rw [if_pos hk, if_pos hk]
    exact cmpB_trans b b' b'' h1 h2
  · rename_i hk
    rw [if_neg hk] at h2 ⊢
    rw [if_neg hk, if_neg hk]
    split at h1
    · rename_i hs
      rw [if_pos hs] at h2 ⊢
      rw [if_pos hs, if_pos hs]
      have a1 := cmpI_or (sgn n) (sgn n')
      have a2 := cmpI_or (sgn n') (sgn n'')
      have a3 := cmpI_or (sgn n) (sgn n'')
      omega
    · rename_i hs
      rw [if_neg hs] at h2 ⊢
      rw [if_neg hs, if_neg hs]
      have a1 := cmpI_or n n'
      have a2 := cmpI_or n' n''
      have a3 := cmpI_or n n''
      omega
theorem cmpP_zero {k n n' : Int} {b b' : List UInt8} {ms ms' : List D} (h : okN n) (h' : okN n') (hk : isKeyB k = true) (f : fitsB k n b ms = true) (f' : fitsB k n' b' ms' = true) : sameB n b ms n' b' ms' = decide (cmpP k n b n' b' = 0) := by
  obtain ⟨m1, n1, b1⟩ := fits_open f
  obtain ⟨m2, n2, b2⟩ := fits_open f'
  simp only [isKeyB, decide_eq_true_eq] at hk
  have key : (n = n' ∧ b = b') ↔ cmpP k n b n' b' = 0 := by
    simp only [cmpP]
    by_cases hk14 : k = 14
    · rw [if_pos hk14, cmpB_zero]
      have a1 := n1 (by omega)
      have a2 := n2 (by omega)
      constructor
      · exact fun h => h.2
      · exact fun h => ⟨by omega, h⟩
    · rw [if_neg hk14]
      have a1 := b1 (by omega)
      have a2 := b2 (by omega)
      have hn : (n = n' ∧ b = b') ↔ n = n' := ⟨fun h => h.1, fun h => ⟨h, by rw [a1, a2]⟩⟩
      rw [hn]
      split
      · have a := cmpI_or (sgn n) (sgn n')
        have s1 := sgn_or (n := n)
        have s2 := sgn_or (n := n')
        omega
      · have a := cmpI_or n n'
        omega
  simp only [sameB, m1, m2, decide_true, Bool.and_true]
  rw [← Bool.decide_and]
  exact decide_eq_decide.2 key

theorem chain_data (k n n' n'' : Int) (b b' b'' : List UInt8) (ms ms' ms'' : List D) (h : okN n) (h' : okN n') (h'' : okN n'') :
    C (M q) n_law3_ScalarChain [.d (.int .i64 k), .d (valD n b ms), .d (valD n' b' ms'), .d (valD n'' b'' ms'')] = some (.d (.bool true)) := by
  rw [c_fn (sf := f_law3_ScalarChain) rfl rfl ⟨rfl, rfl⟩]
  have w0 := awake_data (k := q)
  have w1 := compare_spec (q := q) k n n' b b' ms ms' h h'
  have w2 := compare_spec (q := q) k n' n b' b ms' ms h' h
  have w3 := compare_spec (q := q) k n' n'' b' b'' ms' ms'' h' h''
  have w4 := compare_spec (q := q) k n n'' b b'' ms ms'' h h''
  have w5 := same_spec (q := q) n n' b b' ms ms'
  simp only [valD, compP] at w1 w2 w3 w4 w5 ⊢
  cases e1 : isKeyB k with
  | false =>
    simp only [e1, if_true] at w1 w2 w3 w4
    simp -implicitDefEqProofs (maxSteps := 1000000) (disch := omega) only [↓Int.reduceLT, ↓Int.reduceLE, ↓Int.reduceEq, ↓Nat.reduceEqDiff, Nat.reduceBEq, ↓reduceIte, St.toRS, restrict, initEnv, plainArgs, reduceCtorEq, Nat.reduceEqDiff, Nat.reduceAdd, Nat.reduceMul, Int.reduceLT, Int.reduceLE, Int.reduceEq, Int.reduceNeg, Int.reduceAdd, Int.reduceToNat, Int.reduceNe, Nat.reduceSub, Int.reducePow, Int.reduceMul, vb0, vb1, vb2, vb3, vb4, vb5, vb6, vb7, f_law3_ScalarChain, w0, w1, w2, w3, w4, sub, List.drop_zero, List.take_succ_cons, List.take_zero, List.getElem?_cons_zero, List.getElem?_cons_succ]
  | true =>
    simp only [e1, Bool.true_eq_false, if_false] at w1 w2 w3 w4
    cases f1 : fitsB k n b ms with
    | false =>
      simp only [f1, Bool.false_and, Bool.and_false, Bool.false_eq_true, if_false] at w1 w2 w4
      cases f2 : (fitsB k n' b' ms' && fitsB k n'' b'' ms'') with
      | false => simp only [f2, Bool.false_eq_true, if_false] at w3; simp -implicitDefEqProofs (maxSteps := 1000000) (disch := omega) only [↓Int.reduceLT, ↓Int.reduceLE, ↓Int.reduceEq, ↓Nat.reduceEqDiff, Nat.reduceBEq, ↓reduceIte, St.toRS, restrict, initEnv, plainArgs, reduceCtorEq, Nat.reduceEqDiff, Nat.reduceAdd, Nat.reduceMul, Int.reduceLT, Int.reduceLE, Int.reduceEq, Int.reduceNeg, Int.reduceAdd, Int.reduceToNat, Int.reduceNe, Nat.reduceSub, Int.reducePow, Int.reduceMul, vb0, vb1, vb2, vb3, vb4, vb5, vb6, vb7, f_law3_ScalarChain, w0, w1, w2, w3, w4, sub, List.drop_zero, List.take_succ_cons, List.take_zero, List.getElem?_cons_zero, List.getElem?_cons_succ]
      | true => simp only [f2, if_true] at w3; simp -implicitDefEqProofs (maxSteps := 1000000) (disch := omega) only [↓Int.reduceLT, ↓Int.reduceLE, ↓Int.reduceEq, ↓Nat.reduceEqDiff, Nat.reduceBEq, ↓reduceIte, St.toRS, restrict, initEnv, plainArgs, reduceCtorEq, Nat.reduceEqDiff, Nat.reduceAdd, Nat.reduceMul, Int.reduceLT, Int.reduceLE, Int.reduceEq, Int.reduceNeg, Int.reduceAdd, Int.reduceToNat, Int.reduceNe, Nat.reduceSub, Int.reducePow, Int.reduceMul, vb0, vb1, vb2, vb3, vb4, vb5, vb6, vb7, f_law3_ScalarChain, w0, w1, w2, w3, w4, sub, List.drop_zero, List.take_succ_cons, List.take_zero, List.getElem?_cons_zero, List.getElem?_cons_succ]
    | true =>
      cases f2 : fitsB k n' b' ms' with
      | false =>
        simp only [f1, f2, Bool.false_and, Bool.and_false, Bool.true_and, Bool.false_eq_true, if_false] at w1 w2 w3 w4
        cases f3 : fitsB k n'' b'' ms'' with
        | false => simp only [f3, Bool.false_eq_true, if_false] at w4; simp -implicitDefEqProofs (maxSteps := 1000000) (disch := omega) only [↓Int.reduceLT, ↓Int.reduceLE, ↓Int.reduceEq, ↓Nat.reduceEqDiff, Nat.reduceBEq, ↓reduceIte, St.toRS, restrict, initEnv, plainArgs, reduceCtorEq, Nat.reduceEqDiff, Nat.reduceAdd, Nat.reduceMul, Int.reduceLT, Int.reduceLE, Int.reduceEq, Int.reduceNeg, Int.reduceAdd, Int.reduceToNat, Int.reduceNe, Nat.reduceSub, Int.reducePow, Int.reduceMul, vb0, vb1, vb2, vb3, vb4, vb5, vb6, vb7, f_law3_ScalarChain, w0, w1, w2, w3, w4, sub, List.drop_zero, List.take_succ_cons, List.take_zero, List.getElem?_cons_zero, List.getElem?_cons_succ]
        | true => simp only [f3, if_true] at w4; simp -implicitDefEqProofs (maxSteps := 1000000) (disch := omega) only [↓Int.reduceLT, ↓Int.reduceLE, ↓Int.reduceEq, ↓Nat.reduceEqDiff, Nat.reduceBEq, ↓reduceIte, St.toRS, restrict, initEnv, plainArgs, reduceCtorEq, Nat.reduceEqDiff, Nat.reduceAdd, Nat.reduceMul, Int.reduceLT, Int.reduceLE, Int.reduceEq, Int.reduceNeg, Int.reduceAdd, Int.reduceToNat, Int.reduceNe, Nat.reduceSub, Int.reducePow, Int.reduceMul, vb0, vb1, vb2, vb3, vb4, vb5, vb6, vb7, f_law3_ScalarChain, w0, w1, w2, w3, w4, sub, List.drop_zero, List.take_succ_cons, List.take_zero, List.getElem?_cons_zero, List.getElem?_cons_succ]
      | true =>
        cases f3 : fitsB k n'' b'' ms'' with
        | false =>
          simp only [f1, f2, f3, Bool.and_self, Bool.and_false, Bool.false_eq_true, if_false, if_true] at w1 w2 w3 w4
          simp -implicitDefEqProofs (maxSteps := 1000000) (disch := omega) only [↓Int.reduceLT, ↓Int.reduceLE, ↓Int.reduceEq, ↓Nat.reduceEqDiff, Nat.reduceBEq, ↓reduceIte, St.toRS, restrict, initEnv, plainArgs, reduceCtorEq, Nat.reduceEqDiff, Nat.reduceAdd, Nat.reduceMul, Int.reduceLT, Int.reduceLE, Int.reduceEq, Int.reduceNeg, Int.reduceAdd, Int.reduceToNat, Int.reduceNe, Nat.reduceSub, Int.reducePow, Int.reduceMul, vb0, vb1, vb2, vb3, vb4, vb5, vb6, vb7, f_law3_ScalarChain, w0, w1, w2, w3, w4, sub, List.drop_zero, List.take_succ_cons, List.take_zero, List.getElem?_cons_zero, List.getElem?_cons_succ]
        | true =>
          simp only [f1, f2, f3, Bool.and_self, if_true] at w1 w2 w3 w4
          have z := cmpP_zero h h' e1 f1 f2
          have an := cmpP_anti k n n' b b'
          have tr := cmpP_trans k n n' n'' b b' b''
          rw [an] at w2
          have o1 := cmpP_or k n n' b b'
          have o2 := cmpP_or k n' n'' b' b''
          have o3 := cmpP_or k n n'' b b''
          clear an
          generalize cmpP k n b n' b' = x at *
          generalize cmpP k n' b' n'' b'' = y at *
          generalize cmpP k n b n'' b'' = w at *
          generalize sameB n b ms n' b' ms' = s at *
          subst z
          have m1 : -(-1 : Int) = 1 := rfl
          have m2 : -(0 : Int) = 0 := rfl
          have m3 : -(1 : Int) = -1 := rfl
          have u1 : (0 : Int) - 1 = -1 := rfl
          have u2 : (0 : Int) - 0 = 0 := rfl
          have u3 : (0 : Int) - -1 = 1 := rfl
          rcases o1 with rfl | rfl | rfl
          · rcases o2 with rfl | rfl | rfl
            · rcases o3 with rfl | rfl | rfl <;> first | (exfalso; omega) | (simp -implicitDefEqProofs (maxSteps := 1000000) (disch := omega) only [↓Int.reduceLT, ↓Int.reduceLE, ↓Int.reduceEq, ↓Nat.reduceEqDiff, Nat.reduceBEq, ↓reduceIte, St.toRS, restrict, initEnv, plainArgs, reduceCtorEq, Nat.reduceEqDiff, Nat.reduceAdd, Nat.reduceMul, Int.reduceLT, Int.reduceLE, Int.reduceEq, Int.reduceNeg, Int.reduceAdd, Int.reduceToNat, Int.reduceNe, Nat.reduceSub, Int.reducePow, Int.reduceMul, vb0, vb1, vb2, vb3, vb4, vb5, vb6, vb7, f_law3_ScalarChain, w0, w1, w2, w3, w4, w5, m1, m2, m3, u1, u2, u3, sub, List.drop_zero, List.take_succ_cons, List.take_zero, List.getElem?_cons_zero, List.getElem?_cons_succ])
            · rcases o3 with rfl | rfl | rfl <;> first | (exfalso; omega) | (simp -implicitDefEqProofs (maxSteps := 1000000) (disch := omega) only [↓Int.reduceLT, ↓Int.reduceLE, ↓Int.reduceEq, ↓Nat.reduceEqDiff, Nat.reduceBEq, ↓reduceIte, St.toRS, restrict, initEnv, plainArgs, reduceCtorEq, Nat.reduceEqDiff, Nat.reduceAdd, Nat.reduceMul, Int.reduceLT, Int.reduceLE, Int.reduceEq, Int.reduceNeg, Int.reduceAdd, Int.reduceToNat, Int.reduceNe, Nat.reduceSub, Int.reducePow, Int.reduceMul, vb0, vb1, vb2, vb3, vb4, vb5, vb6, vb7, f_law3_ScalarChain, w0, w1, w2, w3, w4, w5, m1, m2, m3, u1, u2, u3, sub, List.drop_zero, List.take_succ_cons, List.take_zero, List.getElem?_cons_zero, List.getElem?_cons_succ])
            · simp -implicitDefEqProofs (maxSteps := 1000000) (disch := omega) only [↓Int.reduceLT, ↓Int.reduceLE, ↓Int.reduceEq, ↓Nat.reduceEqDiff, Nat.reduceBEq, ↓reduceIte, St.toRS, restrict, initEnv, plainArgs, reduceCtorEq, Nat.reduceEqDiff, Nat.reduceAdd, Nat.reduceMul, Int.reduceLT, Int.reduceLE, Int.reduceEq, Int.reduceNeg, Int.reduceAdd, Int.reduceToNat, Int.reduceNe, Nat.reduceSub, Int.reducePow, Int.reduceMul, vb0, vb1, vb2, vb3, vb4, vb5, vb6, vb7, f_law3_ScalarChain, w0, w1, w2, w3, w4, w5, m1, m2, m3, u1, u2, u3, sub, List.drop_zero, List.take_succ_cons, List.take_zero, List.getElem?_cons_zero, List.getElem?_cons_succ]
          · rcases o2 with rfl | rfl | rfl
            · rcases o3 with rfl | rfl | rfl <;> first | (exfalso; omega) | (simp -implicitDefEqProofs (maxSteps := 1000000) (disch := omega) only [↓Int.reduceLT, ↓Int.reduceLE, ↓Int.reduceEq, ↓Nat.reduceEqDiff, Nat.reduceBEq, ↓reduceIte, St.toRS, restrict, initEnv, plainArgs, reduceCtorEq, Nat.reduceEqDiff, Nat.reduceAdd, Nat.reduceMul, Int.reduceLT, Int.reduceLE, Int.reduceEq, Int.reduceNeg, Int.reduceAdd, Int.reduceToNat, Int.reduceNe, Nat.reduceSub, Int.reducePow, Int.reduceMul, vb0, vb1, vb2, vb3, vb4, vb5, vb6, vb7, f_law3_ScalarChain, w0, w1, w2, w3, w4, w5, m1, m2, m3, u1, u2, u3, sub, List.drop_zero, List.take_succ_cons, List.take_zero, List.getElem?_cons_zero, List.getElem?_cons_succ])
            · rcases o3 with rfl | rfl | rfl <;> first | (exfalso; omega) | (simp -implicitDefEqProofs (maxSteps := 1000000) (disch := omega) only [↓Int.reduceLT, ↓Int.reduceLE, ↓Int.reduceEq, ↓Nat.reduceEqDiff, Nat.reduceBEq, ↓reduceIte, St.toRS, restrict, initEnv, plainArgs, reduceCtorEq, Nat.reduceEqDiff, Nat.reduceAdd, Nat.reduceMul, Int.reduceLT, Int.reduceLE, Int.reduceEq, Int.reduceNeg, Int.reduceAdd, Int.reduceToNat, Int.reduceNe, Nat.reduceSub, Int.reducePow, Int.reduceMul, vb0, vb1, vb2, vb3, vb4, vb5, vb6, vb7, f_law3_ScalarChain, w0, w1, w2, w3, w4, w5, m1, m2, m3, u1, u2, u3, sub, List.drop_zero, List.take_succ_cons, List.take_zero, List.getElem?_cons_zero, List.getElem?_cons_succ])
            · simp -implicitDefEqProofs (maxSteps := 1000000) (disch := omega) only [↓Int.reduceLT, ↓Int.reduceLE, ↓Int.reduceEq, ↓Nat.reduceEqDiff, Nat.reduceBEq, ↓reduceIte, St.toRS, restrict, initEnv, plainArgs, reduceCtorEq, Nat.reduceEqDiff, Nat.reduceAdd, Nat.reduceMul, Int.reduceLT, Int.reduceLE, Int.reduceEq, Int.reduceNeg, Int.reduceAdd, Int.reduceToNat, Int.reduceNe, Nat.reduceSub, Int.reducePow, Int.reduceMul, vb0, vb1, vb2, vb3, vb4, vb5, vb6, vb7, f_law3_ScalarChain, w0, w1, w2, w3, w4, w5, m1, m2, m3, u1, u2, u3, sub, List.drop_zero, List.take_succ_cons, List.take_zero, List.getElem?_cons_zero, List.getElem?_cons_succ]
          · simp -implicitDefEqProofs (maxSteps := 1000000) (disch := omega) only [↓Int.reduceLT, ↓Int.reduceLE, ↓Int.reduceEq, ↓Nat.reduceEqDiff, Nat.reduceBEq, ↓reduceIte, St.toRS, restrict, initEnv, plainArgs, reduceCtorEq, Nat.reduceEqDiff, Nat.reduceAdd, Nat.reduceMul, Int.reduceLT, Int.reduceLE, Int.reduceEq, Int.reduceNeg, Int.reduceAdd, Int.reduceToNat, Int.reduceNe, Nat.reduceSub, Int.reducePow, Int.reduceMul, vb0, vb1, vb2, vb3, vb4, vb5, vb6, vb7, f_law3_ScalarChain, w0, w1, w2, w3, w4, w5, m1, m2, m3, u1, u2, u3, sub, List.drop_zero, List.take_succ_cons, List.take_zero, List.getElem?_cons_zero, List.getElem?_cons_succ]
end Go.Proofs.YtedncpnkbpbchaaDoor
