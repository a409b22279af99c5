/-
  What utf8.Valid, quote.Valid and quote.Runes answer: over data.
-/
import Derived.Test.YtedncpnkbpbchaaDoorChr6
set_option linter.unusedVariables false
set_option linter.unusedSimpArgs false
set_option maxRecDepth 100000
set_option maxHeartbeats 8000000
namespace Go.Proofs.YtedncpnkbpbchaaDoor.U
open Go.Vi

theorem isSome_map {α β : Type} (o : Option α) (f : α → β) : (o.map f).isSome = o.isSome := by cases o <;> rfl
theorem v_loop : ∀ (n : Nat) (p : List UInt8) (ex : List (Nat × V)), p.length ≤ n → p.length ≤ 140737488355328 →
    X (M false) (.loop l_unicode_utf8_Valid_1) (v_st p ex) = if (runes p).isSome then some (.exit 0, v_st [] [(15, .d (.bool false))]) else v_false := by
  intro n
  induction n with
  | zero =>
    intro p ex hn hm
    obtain rfl : p = [] := List.eq_nil_of_length_eq_zero (by omega)
    simp only [runes_nil, Option.isSome_some, if_true]
    refine loop_exit ?_ (by simp)
    simp -implicitDefEqProofs (maxSteps := 1000000) (disch := omega) only [↓Int.reduceLT, ↓Int.reduceLE, ↓Int.reduceEq, ↓Nat.reduceEqDiff, Nat.reduceBEq, ↓reduceIte, St.toRS, restrict, initEnv, plainArgs, reduceCtorEq, Nat.reduceEqDiff, Nat.reduceAdd, Nat.reduceMul, Int.reduceLT, Int.reduceLE, Int.reduceEq, Int.reduceNeg, Int.reduceAdd, Int.reduceToNat, Int.reduceNe, Nat.reduceSub, Int.reducePow, Int.reduceMul, vb0, vb1, vb2, vb3, vb4, vb5, vb6, vb7, l_unicode_utf8_Valid_1, v_st, bytesD_length]
  | succ n ih =>
    intro p ex hn hm
    cases p with
    | nil =>
      simp only [runes_nil, Option.isSome_some, if_true]
      refine loop_exit ?_ (by simp)
      simp -implicitDefEqProofs (maxSteps := 1000000) (disch := omega) only [↓Int.reduceLT, ↓Int.reduceLE, ↓Int.reduceEq, ↓Nat.reduceEqDiff, Nat.reduceBEq, ↓reduceIte, St.toRS, restrict, initEnv, plainArgs, reduceCtorEq, Nat.reduceEqDiff, Nat.reduceAdd, Nat.reduceMul, Int.reduceLT, Int.reduceLE, Int.reduceEq, Int.reduceNeg, Int.reduceAdd, Int.reduceToNat, Int.reduceNe, Nat.reduceSub, Int.reducePow, Int.reduceMul, vb0, vb1, vb2, vb3, vb4, vb5, vb6, vb7, l_unicode_utf8_Valid_1, v_st, bytesD_length]
    | cons c r =>
      simp only [List.length_cons] at hn hm
      by_cases h128 : c.toNat < 128
      · obtain ⟨k, ex', hk, hx⟩ := v_ascii c r hm h128 ex
        rw [X_loop, hx, runes_one h128, runes_asc k r hk, isSome_map, isSome_map]
        exact ih (r.drop k) ex' (by simp; omega) (by simp; omega)
      · have ho := v_other c r hm (by omega) ex
        rw [runes_cons, chr_eq]
        cases hk : chrT (c :: r) with
        | none =>
          rw [hk] at ho
          simp only [Option.isSome_none, Bool.false_eq_true, if_false]
          exact loop_exit ho (by simp [v_false])
        | some k =>
          rw [hk] at ho
          rw [← chr_eq] at hk
          obtain ⟨k1, k4, kl⟩ := chr_pos hk
          simp only [isSome_map] at ho ⊢
          rw [X_loop, ho]
          exact ih ((c :: r).drop k) [] (by simp; omega) (by simp; omega)

theorem uvalid_spec (p : List UInt8) (hm : p.length ≤ 140737488355328) : C (M false) 72 [.d (.slice 1 (bytesD p))] = some (.d (.bool (runes p).isSome)) := by
  rw [c_fn (sf := f_unicode_utf8_Valid) rfl rfl ⟨rfl, rfl⟩]
  have hl := v_loop p.length p [] (Nat.le_refl _) hm
  have tk : (bytesD p).take p.length = bytesD p := by rw [bytesD_take, List.take_length]
  simp only [v_st] at hl
  cases hs : (runes p).isSome with
  | true =>
    simp only [hs, if_true] at hl
    simp -implicitDefEqProofs (maxSteps := 1000000) (disch := omega) only [↓Int.reduceLT, ↓Int.reduceLE, ↓Int.reduceEq, ↓Nat.reduceEqDiff, Nat.reduceBEq, ↓reduceIte, St.toRS, restrict, initEnv, plainArgs, reduceCtorEq, Nat.reduceEqDiff, Nat.reduceAdd, Nat.reduceMul, Int.reduceLT, Int.reduceLE, Int.reduceEq, Int.reduceNeg, Int.reduceAdd, Int.reduceToNat, Int.reduceNe, Nat.reduceSub, Int.reducePow, Int.reduceMul, vb0, vb1, vb2, vb3, vb4, vb5, vb6, vb7, f_unicode_utf8_Valid, bytesD_length, tk, List.drop_zero, hl]
  | false =>
    simp only [hs, v_false, Bool.false_eq_true, if_false] at hl
    simp -implicitDefEqProofs (maxSteps := 1000000) (disch := omega) only [↓Int.reduceLT, ↓Int.reduceLE, ↓Int.reduceEq, ↓Nat.reduceEqDiff, Nat.reduceBEq, ↓reduceIte, St.toRS, restrict, initEnv, plainArgs, reduceCtorEq, Nat.reduceEqDiff, Nat.reduceAdd, Nat.reduceMul, Int.reduceLT, Int.reduceLE, Int.reduceEq, Int.reduceNeg, Int.reduceAdd, Int.reduceToNat, Int.reduceNe, Nat.reduceSub, Int.reducePow, Int.reduceMul, vb0, vb1, vb2, vb3, vb4, vb5, vb6, vb7, f_unicode_utf8_Valid, bytesD_length, tk, List.drop_zero, hl]

theorem valid_spec (p : List UInt8) (hm : p.length ≤ 140737488355328) : C (M false) 59 [.d (.slice 1 (bytesD p))] = some (.d (.bool (runes p).isSome)) := by
  rw [c_fn (sf := f_quote_Valid) rfl rfl ⟨rfl, rfl⟩]
  have h := uvalid_spec p hm
  simp -implicitDefEqProofs (maxSteps := 1000000) (disch := omega) only [↓Int.reduceLT, ↓Int.reduceLE, ↓Int.reduceEq, ↓Nat.reduceEqDiff, Nat.reduceBEq, ↓reduceIte, St.toRS, restrict, initEnv, plainArgs, reduceCtorEq, Nat.reduceEqDiff, Nat.reduceAdd, Nat.reduceMul, Int.reduceLT, Int.reduceLE, Int.reduceEq, Int.reduceNeg, Int.reduceAdd, Int.reduceToNat, Int.reduceNe, Nat.reduceSub, Int.reducePow, Int.reduceMul, vb0, vb1, vb2, vb3, vb4, vb5, vb6, vb7, f_quote_Valid, h]

end Go.Proofs.YtedncpnkbpbchaaDoor.U
