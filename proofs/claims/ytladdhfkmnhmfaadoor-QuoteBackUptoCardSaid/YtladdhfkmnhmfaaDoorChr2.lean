/-
  How many characters: the plain count; what the reference's Runes answers: over data.
-/
import Derived.Test.YtladdhfkmnhmfaaDoorChr
set_option linter.unusedVariables false
set_option linter.unusedSimpArgs false
set_option maxRecDepth 100000
set_option maxHeartbeats 8000000
namespace Go.Proofs.YtladdhfkmnhmfaaDoor
open Go.Vi

/-- How many characters; none: no UTF-8. -/
def runesF : Nat → List UInt8 → Option Nat
  | _, [] => some 0
  | 0, _ :: _ => none
  | n + 1, c :: r =>
    match chr (c :: r) with
    | none => none
    | some k => (runesF n ((c :: r).drop k)).map (· + 1)
def runes (b : List UInt8) : Option Nat := runesF b.length b

theorem tailV_some {size : Nat} {v low : Int} {r : List UInt8} {k : Nat} (h : tailV size v low r = some k) : k = size ∧ size ≤ r.length + 1 := by
  simp only [tailV] at h
  split at h
  · cases h
  · split at h
    · cases h
    · split at h
      · cases h; omega
      · cases h

theorem chr_pos {c : UInt8} {r : List UInt8} {k : Nat} (h : chr (c :: r) = some k) : 1 ≤ k ∧ k ≤ 4 ∧ k ≤ r.length + 1 := by
  simp only [chr] at h
  split at h
  · cases h; omega
  split at h
  · cases h
  split at h
  · have := tailV_some h; omega
  split at h
  · have := tailV_some h; omega
  split at h
  · have := tailV_some h; omega
  · cases h

theorem runesF_same : ∀ (n m : Nat) (l : List UInt8), l.length ≤ n → l.length ≤ m → runesF n l = runesF m l := by
  intro n
  induction n with
  | zero => intro m l h _; have : l = [] := List.eq_nil_of_length_eq_zero (by omega); subst this; cases m <;> rfl
  | succ n ih =>
    intro m l h hm
    cases l with
    | nil => cases m <;> rfl
    | cons c r =>
      cases m with
      | zero => simp at hm
      | succ m =>
        simp only [runesF]
        cases hk : chr (c :: r) with
        | none => rfl
        | some k =>
          obtain ⟨k1, k4, kl⟩ := chr_pos hk
          simp only [List.length_cons] at h hm
          simp only []
          rw [ih m _ (by simp; omega) (by simp; omega)]
theorem runes_nil : runes [] = some 0 := rfl
theorem runes_cons (c : UInt8) (r : List UInt8) : runes (c :: r) = match chr (c :: r) with
    | none => none
    | some k => (runes ((c :: r).drop k)).map (· + 1) := by
  simp only [runes, List.length_cons, runesF]
  cases hk : chr (c :: r) with
  | none => rfl
  | some k =>
    obtain ⟨k1, k4, kl⟩ := chr_pos hk
    simp only []
    rw [runesF_same _ ((c :: r).drop k).length _ (by simp; omega) (Nat.le_refl _)]

def k_end (b : List UInt8) (n : Nat) : St := { env := [(0, .d (.slice 1 (bytesD b))), (3, .d (.int .i64 n)), (4, .d (.int .i64 b.length)), (14, .d (.bool false))], bx := [] }
theorem k_loop (b : List UInt8) (hb : b.length ≤ 140737488355328) : ∀ (m n i : Nat), n ≤ i → i ≤ b.length → b.length - i ≤ m →
    X M (.loop l_ref2_Runes_1) (k_inv b n i) = match runes (b.drop i) with
      | none => k_fail
      | some c => some (.exit 0, k_end b (n + c)) := by
  intro m
  induction m with
  | zero =>
    intro n i hn hi hm
    obtain rfl : i = b.length := by omega
    rw [List.drop_length, runes_nil]
    refine loop_exit ?_ (by simp)
    simp -implicitDefEqProofs (maxSteps := 1000000) (disch := omega) only [↓Int.reduceLT, ↓Int.reduceLE, ↓Int.reduceEq, ↓Nat.reduceEqDiff, lt_T, lt_F, le_T, le_F, eq_T, eq_F, nlt_T, nlt_F, nle_T, nle_F, up_add, up_addL, up_mulL, up_1add, up_2add, up_sub, up_sub1, wrap_i64', wrap_i32', wrap_u64', wrap_u32', wrap_u8', Int.cast_ofNat_Int, s_call1, s_call2, s_call3, s_call4, s_call5, List.contains_cons, List.contains_nil, Nat.reduceBEq, Bool.or_true, Bool.or_false, Bool.true_or, Bool.false_or, ↓reduceIte, step_guard, e_guardW, e_guardWU, X_seq, x_reg, X_block, x_cond, X_ret, X_exit, X_skip, X_goto, X_label, condOf_eq, andThen_norm, andThen_exit, andThen_goto, andThen_ret, andThen_none, andThen_ite, outOf_norm, outOf_exit, outOf_goto, outOf_ret, outOf_none, outOf_ite, regEnd_ite, runL_ite, layD_ite, step_none, bound_none, bound_some, upd_at, get_nil, get_cons, St.toRS, restrict, keepEnv_nil, keepEnv_cons, keepBx_nil, keepBx_cons, initEnv, finO_ite, plainArgs, List.map_cons, List.map_nil, s_mov, s_pick, s_zbox, s_box, s_build, s_mk, s_load, s_store, s_bin, s_eqs, s_neg, s_not, s_cint, s_cstr, s_faddr, s_iaddr, s_aaddr, s_sidx, s_aidx, s_app, s_len, s_max2, s_make, s_slcs, s_slc, s_rng, s_nxt, s_ext, e_runL0, e_runL, e_runLn, e_layD, e_layV, e_put, e_put0, e_movOwn, e_movOwnC, e_movRead, e_movD, e_movL, e_movC, e_movT, e_pick, e_bin, e_binI, e_binS, e_binB, e_binE, e_add, e_sub, e_mul, e_quo, e_rem, e_and, e_or, e_xor, e_andNot, e_shl, e_shr, e_eql, e_neq, e_lss, e_leq, e_gtr, e_geq, e_sadd, e_seql, e_sneq, e_slss, e_sgtr, e_beql, e_bneq, e_eeql, e_eneq, e_eqs, e_neg, e_not, e_cint, e_cref, e_iaddr, e_byte, e_sidx, e_aidx, e_len, e_lenS, e_max2, e_make, e_slcs, e_slc, e_lenOfS, e_lenOf, e_nat, e_rng, e_ext, e_loadC, e_loadL, e_subB, e_store, e_storeB, e_faddrL, e_faddrC, e_aaddrL, e_aaddrC, e_zbox, e_zboxB, e_box, e_build, e_mk, e_app, e_appC, e_appS, e_appSC, e_nxt, e_dArgs, e_call, e_evT, e_evC, e_evG, e_crefO, e_evD, e_readD, e_readO, e_evI, e_intO, e_evDs, e_evDs0, e_consO, e_regEnd, e_condX, e_boolOf, e_keepD, e_keepO, e_keepC, e_keepT, e_keepI, e_keepL, e_keepN, e_keepB, e_keepBn, e_finN, e_finR, e_res1, e_resD, e_resO, e_dV, e_res1c, e_res2, e_tupO, e_resDs, e_resDs0, e_resS, e_resC, e_cellO, e_wholeI, e_wholeS, e_wholeB, e_wholeL, e_wholeA, reduceCtorEq, Bool.not_false, Bool.not_true, Bool.and_self, Bool.true_and, Bool.false_and, Option.isNone_none, Option.isNone_some, Option.isSome_some, Option.isSome_none, or_true, true_or, or_false, false_or, and_true, true_and, eq_self, decide_true, decide_false, Bool.false_eq_true, Bool.true_eq_false, decide_eq_true_eq, ite_true, ite_false, Nat.reduceEqDiff, Nat.reduceAdd, Nat.reduceMul, Int.reduceLT, Int.reduceLE, Int.reduceEq, Int.reduceNeg, Int.reduceAdd, Int.reduceToNat, Int.toNat_natCast, Int.natCast_nonneg, List.length_cons, List.length_nil, Int.reduceNe, ne_eq, not_false_eq_true, not_true_eq_false, Nat.reduceSub, Option.map_some, decide_not, e_cellsI, e_cellsS, e_cellsB, e_cellsL, e_cellsE, e_cellsA, List.all_cons, List.all_nil, beq_self_eq_true, Nat.mul_one, Int.reducePow, Int.reduceMul, List.replicate_zero, List.nil_append, Nat.zero_add, e_sh_u8_1, e_sh_u8_3, e_sh_u8_4, e_sh_u8_7, e_sh_u32_1, e_sh_u32_3, e_sh_u32_4, e_sh_u32_7, e_sh_u32_8, e_sh_u32_16, e_sh_u32_24, e_sh_u32_31, e_sh_u64_1, e_sh_u64_3, e_sh_u64_4, e_sh_u64_7, e_sh_u64_8, e_sh_u64_16, e_sh_u64_24, e_sh_u64_31, e_sh_u64_32, e_sh_u64_40, e_sh_u64_48, e_sh_u64_56, e_sh_u64_60, e_sh_u64_63, e_sh_i64_1, e_sh_i64_3, e_sh_i64_4, e_sh_i64_7, e_sh_i64_8, e_sh_i64_16, e_sh_i64_24, e_sh_i64_31, e_sh_i64_32, e_sh_i64_40, e_sh_i64_48, e_sh_i64_56, e_sh_i64_60, e_sh_i64_63, e_keepU, s_call0, l_ref2_Runes_1, k_inv, k_end, bytesD_length, Nat.add_zero]
  | succ m ih =>
    intro n i hn hi hm
    rcases Nat.lt_or_ge i b.length with hlt | hge
    · have hr := k_round b n i hb (by omega) hlt
      have hd : b.drop i = b[i] :: b.drop (i + 1) := List.drop_eq_getElem_cons hlt
      rw [hd, runes_cons, ← hd]
      cases hk : chr (b.drop i) with
      | none =>
        rw [hk] at hr
        exact loop_exit hr (by simp)
      | some k =>
        rw [hk] at hr
        obtain ⟨k1, k4, kl⟩ := chr_pos (hd ▸ hk)
        simp only [List.length_drop] at kl
        rw [X_loop, hr]
        have := ih (n + 1) (i + k) (by omega) (by omega) (by omega)
        simp only [List.drop_drop]
        cases hR : runes (b.drop (i + k)) with
        | none => rw [hR] at this; exact this
        | some c => rw [hR] at this; simp only [Option.map_some]; rw [show n + (c + 1) = n + 1 + c by omega]; exact this
    · obtain rfl : i = b.length := by omega
      rw [List.drop_length, runes_nil]
      refine loop_exit ?_ (by simp)
      simp -implicitDefEqProofs (maxSteps := 1000000) (disch := omega) only [↓Int.reduceLT, ↓Int.reduceLE, ↓Int.reduceEq, ↓Nat.reduceEqDiff, lt_T, lt_F, le_T, le_F, eq_T, eq_F, nlt_T, nlt_F, nle_T, nle_F, up_add, up_addL, up_mulL, up_1add, up_2add, up_sub, up_sub1, wrap_i64', wrap_i32', wrap_u64', wrap_u32', wrap_u8', Int.cast_ofNat_Int, s_call1, s_call2, s_call3, s_call4, s_call5, List.contains_cons, List.contains_nil, Nat.reduceBEq, Bool.or_true, Bool.or_false, Bool.true_or, Bool.false_or, ↓reduceIte, step_guard, e_guardW, e_guardWU, X_seq, x_reg, X_block, x_cond, X_ret, X_exit, X_skip, X_goto, X_label, condOf_eq, andThen_norm, andThen_exit, andThen_goto, andThen_ret, andThen_none, andThen_ite, outOf_norm, outOf_exit, outOf_goto, outOf_ret, outOf_none, outOf_ite, regEnd_ite, runL_ite, layD_ite, step_none, bound_none, bound_some, upd_at, get_nil, get_cons, St.toRS, restrict, keepEnv_nil, keepEnv_cons, keepBx_nil, keepBx_cons, initEnv, finO_ite, plainArgs, List.map_cons, List.map_nil, s_mov, s_pick, s_zbox, s_box, s_build, s_mk, s_load, s_store, s_bin, s_eqs, s_neg, s_not, s_cint, s_cstr, s_faddr, s_iaddr, s_aaddr, s_sidx, s_aidx, s_app, s_len, s_max2, s_make, s_slcs, s_slc, s_rng, s_nxt, s_ext, e_runL0, e_runL, e_runLn, e_layD, e_layV, e_put, e_put0, e_movOwn, e_movOwnC, e_movRead, e_movD, e_movL, e_movC, e_movT, e_pick, e_bin, e_binI, e_binS, e_binB, e_binE, e_add, e_sub, e_mul, e_quo, e_rem, e_and, e_or, e_xor, e_andNot, e_shl, e_shr, e_eql, e_neq, e_lss, e_leq, e_gtr, e_geq, e_sadd, e_seql, e_sneq, e_slss, e_sgtr, e_beql, e_bneq, e_eeql, e_eneq, e_eqs, e_neg, e_not, e_cint, e_cref, e_iaddr, e_byte, e_sidx, e_aidx, e_len, e_lenS, e_max2, e_make, e_slcs, e_slc, e_lenOfS, e_lenOf, e_nat, e_rng, e_ext, e_loadC, e_loadL, e_subB, e_store, e_storeB, e_faddrL, e_faddrC, e_aaddrL, e_aaddrC, e_zbox, e_zboxB, e_box, e_build, e_mk, e_app, e_appC, e_appS, e_appSC, e_nxt, e_dArgs, e_call, e_evT, e_evC, e_evG, e_crefO, e_evD, e_readD, e_readO, e_evI, e_intO, e_evDs, e_evDs0, e_consO, e_regEnd, e_condX, e_boolOf, e_keepD, e_keepO, e_keepC, e_keepT, e_keepI, e_keepL, e_keepN, e_keepB, e_keepBn, e_finN, e_finR, e_res1, e_resD, e_resO, e_dV, e_res1c, e_res2, e_tupO, e_resDs, e_resDs0, e_resS, e_resC, e_cellO, e_wholeI, e_wholeS, e_wholeB, e_wholeL, e_wholeA, reduceCtorEq, Bool.not_false, Bool.not_true, Bool.and_self, Bool.true_and, Bool.false_and, Option.isNone_none, Option.isNone_some, Option.isSome_some, Option.isSome_none, or_true, true_or, or_false, false_or, and_true, true_and, eq_self, decide_true, decide_false, Bool.false_eq_true, Bool.true_eq_false, decide_eq_true_eq, ite_true, ite_false, Nat.reduceEqDiff, Nat.reduceAdd, Nat.reduceMul, Int.reduceLT, Int.reduceLE, Int.reduceEq, Int.reduceNeg, Int.reduceAdd, Int.reduceToNat, Int.toNat_natCast, Int.natCast_nonneg, List.length_cons, List.length_nil, Int.reduceNe, ne_eq, not_false_eq_true, not_true_eq_false, Nat.reduceSub, Option.map_some, decide_not, e_cellsI, e_cellsS, e_cellsB, e_cellsL, e_cellsE, e_cellsA, List.all_cons, List.all_nil, beq_self_eq_true, Nat.mul_one, Int.reducePow, Int.reduceMul, List.replicate_zero, List.nil_append, Nat.zero_add, e_sh_u8_1, e_sh_u8_3, e_sh_u8_4, e_sh_u8_7, e_sh_u32_1, e_sh_u32_3, e_sh_u32_4, e_sh_u32_7, e_sh_u32_8, e_sh_u32_16, e_sh_u32_24, e_sh_u32_31, e_sh_u64_1, e_sh_u64_3, e_sh_u64_4, e_sh_u64_7, e_sh_u64_8, e_sh_u64_16, e_sh_u64_24, e_sh_u64_31, e_sh_u64_32, e_sh_u64_40, e_sh_u64_48, e_sh_u64_56, e_sh_u64_60, e_sh_u64_63, e_sh_i64_1, e_sh_i64_3, e_sh_i64_4, e_sh_i64_7, e_sh_i64_8, e_sh_i64_16, e_sh_i64_24, e_sh_i64_31, e_sh_i64_32, e_sh_i64_40, e_sh_i64_48, e_sh_i64_56, e_sh_i64_60, e_sh_i64_63, e_keepU, s_call0, l_ref2_Runes_1, k_inv, k_end, bytesD_length, Nat.add_zero]

def runesN (b : List UInt8) : Int := match runes b with
  | none => -1
  | some n => n
theorem rrunes_spec (b : List UInt8) (hb : b.length ≤ 140737488355328) : C M n_ref2_Runes [.d (.slice 1 (bytesD b))] = some (.d (.int .i64 (runesN b))) := by
  rw [c_fn (sf := f_ref2_Runes) rfl rfl ⟨rfl, rfl⟩]
  have hl := k_loop b hb b.length 0 0 (by omega) (by omega) (by omega)
  simp only [List.drop_zero, k_inv, Int.cast_ofNat_Int, Nat.zero_add] at hl
  cases hR : runes b with
  | none => simp only [hR, k_fail] at hl; simp -implicitDefEqProofs (maxSteps := 1000000) (disch := omega) only [↓Int.reduceLT, ↓Int.reduceLE, ↓Int.reduceEq, ↓Nat.reduceEqDiff, lt_T, lt_F, le_T, le_F, eq_T, eq_F, nlt_T, nlt_F, nle_T, nle_F, up_add, up_addL, up_mulL, up_1add, up_2add, up_sub, up_sub1, wrap_i64', wrap_i32', wrap_u64', wrap_u32', wrap_u8', Int.cast_ofNat_Int, s_call1, s_call2, s_call3, s_call4, s_call5, List.contains_cons, List.contains_nil, Nat.reduceBEq, Bool.or_true, Bool.or_false, Bool.true_or, Bool.false_or, ↓reduceIte, step_guard, e_guardW, e_guardWU, X_seq, x_reg, X_block, x_cond, X_ret, X_exit, X_skip, X_goto, X_label, condOf_eq, andThen_norm, andThen_exit, andThen_goto, andThen_ret, andThen_none, andThen_ite, outOf_norm, outOf_exit, outOf_goto, outOf_ret, outOf_none, outOf_ite, regEnd_ite, runL_ite, layD_ite, step_none, bound_none, bound_some, upd_at, get_nil, get_cons, St.toRS, restrict, keepEnv_nil, keepEnv_cons, keepBx_nil, keepBx_cons, initEnv, finO_ite, plainArgs, List.map_cons, List.map_nil, s_mov, s_pick, s_zbox, s_box, s_build, s_mk, s_load, s_store, s_bin, s_eqs, s_neg, s_not, s_cint, s_cstr, s_faddr, s_iaddr, s_aaddr, s_sidx, s_aidx, s_app, s_len, s_max2, s_make, s_slcs, s_slc, s_rng, s_nxt, s_ext, e_runL0, e_runL, e_runLn, e_layD, e_layV, e_put, e_put0, e_movOwn, e_movOwnC, e_movRead, e_movD, e_movL, e_movC, e_movT, e_pick, e_bin, e_binI, e_binS, e_binB, e_binE, e_add, e_sub, e_mul, e_quo, e_rem, e_and, e_or, e_xor, e_andNot, e_shl, e_shr, e_eql, e_neq, e_lss, e_leq, e_gtr, e_geq, e_sadd, e_seql, e_sneq, e_slss, e_sgtr, e_beql, e_bneq, e_eeql, e_eneq, e_eqs, e_neg, e_not, e_cint, e_cref, e_iaddr, e_byte, e_sidx, e_aidx, e_len, e_lenS, e_max2, e_make, e_slcs, e_slc, e_lenOfS, e_lenOf, e_nat, e_rng, e_ext, e_loadC, e_loadL, e_subB, e_store, e_storeB, e_faddrL, e_faddrC, e_aaddrL, e_aaddrC, e_zbox, e_zboxB, e_box, e_build, e_mk, e_app, e_appC, e_appS, e_appSC, e_nxt, e_dArgs, e_call, e_evT, e_evC, e_evG, e_crefO, e_evD, e_readD, e_readO, e_evI, e_intO, e_evDs, e_evDs0, e_consO, e_regEnd, e_condX, e_boolOf, e_keepD, e_keepO, e_keepC, e_keepT, e_keepI, e_keepL, e_keepN, e_keepB, e_keepBn, e_finN, e_finR, e_res1, e_resD, e_resO, e_dV, e_res1c, e_res2, e_tupO, e_resDs, e_resDs0, e_resS, e_resC, e_cellO, e_wholeI, e_wholeS, e_wholeB, e_wholeL, e_wholeA, reduceCtorEq, Bool.not_false, Bool.not_true, Bool.and_self, Bool.true_and, Bool.false_and, Option.isNone_none, Option.isNone_some, Option.isSome_some, Option.isSome_none, or_true, true_or, or_false, false_or, and_true, true_and, eq_self, decide_true, decide_false, Bool.false_eq_true, Bool.true_eq_false, decide_eq_true_eq, ite_true, ite_false, Nat.reduceEqDiff, Nat.reduceAdd, Nat.reduceMul, Int.reduceLT, Int.reduceLE, Int.reduceEq, Int.reduceNeg, Int.reduceAdd, Int.reduceToNat, Int.toNat_natCast, Int.natCast_nonneg, List.length_cons, List.length_nil, Int.reduceNe, ne_eq, not_false_eq_true, not_true_eq_false, Nat.reduceSub, Option.map_some, decide_not, e_cellsI, e_cellsS, e_cellsB, e_cellsL, e_cellsE, e_cellsA, List.all_cons, List.all_nil, beq_self_eq_true, Nat.mul_one, Int.reducePow, Int.reduceMul, List.replicate_zero, List.nil_append, Nat.zero_add, e_sh_u8_1, e_sh_u8_3, e_sh_u8_4, e_sh_u8_7, e_sh_u32_1, e_sh_u32_3, e_sh_u32_4, e_sh_u32_7, e_sh_u32_8, e_sh_u32_16, e_sh_u32_24, e_sh_u32_31, e_sh_u64_1, e_sh_u64_3, e_sh_u64_4, e_sh_u64_7, e_sh_u64_8, e_sh_u64_16, e_sh_u64_24, e_sh_u64_31, e_sh_u64_32, e_sh_u64_40, e_sh_u64_48, e_sh_u64_56, e_sh_u64_60, e_sh_u64_63, e_sh_i64_1, e_sh_i64_3, e_sh_i64_4, e_sh_i64_7, e_sh_i64_8, e_sh_i64_16, e_sh_i64_24, e_sh_i64_31, e_sh_i64_32, e_sh_i64_40, e_sh_i64_48, e_sh_i64_56, e_sh_i64_60, e_sh_i64_63, e_keepU, s_call0, f_ref2_Runes, hl, runesN, hR]
  | some n => simp only [hR, k_end] at hl; simp -implicitDefEqProofs (maxSteps := 1000000) (disch := omega) only [↓Int.reduceLT, ↓Int.reduceLE, ↓Int.reduceEq, ↓Nat.reduceEqDiff, lt_T, lt_F, le_T, le_F, eq_T, eq_F, nlt_T, nlt_F, nle_T, nle_F, up_add, up_addL, up_mulL, up_1add, up_2add, up_sub, up_sub1, wrap_i64', wrap_i32', wrap_u64', wrap_u32', wrap_u8', Int.cast_ofNat_Int, s_call1, s_call2, s_call3, s_call4, s_call5, List.contains_cons, List.contains_nil, Nat.reduceBEq, Bool.or_true, Bool.or_false, Bool.true_or, Bool.false_or, ↓reduceIte, step_guard, e_guardW, e_guardWU, X_seq, x_reg, X_block, x_cond, X_ret, X_exit, X_skip, X_goto, X_label, condOf_eq, andThen_norm, andThen_exit, andThen_goto, andThen_ret, andThen_none, andThen_ite, outOf_norm, outOf_exit, outOf_goto, outOf_ret, outOf_none, outOf_ite, regEnd_ite, runL_ite, layD_ite, step_none, bound_none, bound_some, upd_at, get_nil, get_cons, St.toRS, restrict, keepEnv_nil, keepEnv_cons, keepBx_nil, keepBx_cons, initEnv, finO_ite, plainArgs, List.map_cons, List.map_nil, s_mov, s_pick, s_zbox, s_box, s_build, s_mk, s_load, s_store, s_bin, s_eqs, s_neg, s_not, s_cint, s_cstr, s_faddr, s_iaddr, s_aaddr, s_sidx, s_aidx, s_app, s_len, s_max2, s_make, s_slcs, s_slc, s_rng, s_nxt, s_ext, e_runL0, e_runL, e_runLn, e_layD, e_layV, e_put, e_put0, e_movOwn, e_movOwnC, e_movRead, e_movD, e_movL, e_movC, e_movT, e_pick, e_bin, e_binI, e_binS, e_binB, e_binE, e_add, e_sub, e_mul, e_quo, e_rem, e_and, e_or, e_xor, e_andNot, e_shl, e_shr, e_eql, e_neq, e_lss, e_leq, e_gtr, e_geq, e_sadd, e_seql, e_sneq, e_slss, e_sgtr, e_beql, e_bneq, e_eeql, e_eneq, e_eqs, e_neg, e_not, e_cint, e_cref, e_iaddr, e_byte, e_sidx, e_aidx, e_len, e_lenS, e_max2, e_make, e_slcs, e_slc, e_lenOfS, e_lenOf, e_nat, e_rng, e_ext, e_loadC, e_loadL, e_subB, e_store, e_storeB, e_faddrL, e_faddrC, e_aaddrL, e_aaddrC, e_zbox, e_zboxB, e_box, e_build, e_mk, e_app, e_appC, e_appS, e_appSC, e_nxt, e_dArgs, e_call, e_evT, e_evC, e_evG, e_crefO, e_evD, e_readD, e_readO, e_evI, e_intO, e_evDs, e_evDs0, e_consO, e_regEnd, e_condX, e_boolOf, e_keepD, e_keepO, e_keepC, e_keepT, e_keepI, e_keepL, e_keepN, e_keepB, e_keepBn, e_finN, e_finR, e_res1, e_resD, e_resO, e_dV, e_res1c, e_res2, e_tupO, e_resDs, e_resDs0, e_resS, e_resC, e_cellO, e_wholeI, e_wholeS, e_wholeB, e_wholeL, e_wholeA, reduceCtorEq, Bool.not_false, Bool.not_true, Bool.and_self, Bool.true_and, Bool.false_and, Option.isNone_none, Option.isNone_some, Option.isSome_some, Option.isSome_none, or_true, true_or, or_false, false_or, and_true, true_and, eq_self, decide_true, decide_false, Bool.false_eq_true, Bool.true_eq_false, decide_eq_true_eq, ite_true, ite_false, Nat.reduceEqDiff, Nat.reduceAdd, Nat.reduceMul, Int.reduceLT, Int.reduceLE, Int.reduceEq, Int.reduceNeg, Int.reduceAdd, Int.reduceToNat, Int.toNat_natCast, Int.natCast_nonneg, List.length_cons, List.length_nil, Int.reduceNe, ne_eq, not_false_eq_true, not_true_eq_false, Nat.reduceSub, Option.map_some, decide_not, e_cellsI, e_cellsS, e_cellsB, e_cellsL, e_cellsE, e_cellsA, List.all_cons, List.all_nil, beq_self_eq_true, Nat.mul_one, Int.reducePow, Int.reduceMul, List.replicate_zero, List.nil_append, Nat.zero_add, e_sh_u8_1, e_sh_u8_3, e_sh_u8_4, e_sh_u8_7, e_sh_u32_1, e_sh_u32_3, e_sh_u32_4, e_sh_u32_7, e_sh_u32_8, e_sh_u32_16, e_sh_u32_24, e_sh_u32_31, e_sh_u64_1, e_sh_u64_3, e_sh_u64_4, e_sh_u64_7, e_sh_u64_8, e_sh_u64_16, e_sh_u64_24, e_sh_u64_31, e_sh_u64_32, e_sh_u64_40, e_sh_u64_48, e_sh_u64_56, e_sh_u64_60, e_sh_u64_63, e_sh_i64_1, e_sh_i64_3, e_sh_i64_4, e_sh_i64_7, e_sh_i64_8, e_sh_i64_16, e_sh_i64_24, e_sh_i64_31, e_sh_i64_32, e_sh_i64_40, e_sh_i64_48, e_sh_i64_56, e_sh_i64_60, e_sh_i64_63, e_keepU, s_call0, f_ref2_Runes, hl, runesN, hR]
end Go.Proofs.YtladdhfkmnhmfaaDoor
