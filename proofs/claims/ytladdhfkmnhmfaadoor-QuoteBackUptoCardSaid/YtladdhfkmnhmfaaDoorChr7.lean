/-
  What utf8.Valid, quote.Valid and quote.Runes answer: over data.
-/
import Derived.Test.YtladdhfkmnhmfaaDoorChr6
set_option linter.unusedVariables false
set_option linter.unusedSimpArgs false
set_option maxRecDepth 100000
set_option maxHeartbeats 8000000
namespace Go.Proofs.YtladdhfkmnhmfaaDoor
open Go.Vi

theorem isSome_map {α β : Type} (o : Option α) (f : α → β) : (o.map f).isSome = o.isSome := by cases o <;> rfl
theorem v_loop : ∀ (n : Nat) (p : List UInt8) (ex : List (Nat × V)), p.length ≤ n → p.length ≤ 140737488355328 →
    X M (.loop l_unicode_utf8_Valid_1) (v_st p ex) = if (runes p).isSome then some (.exit 0, v_st [] [(15, .d (.bool false))]) else v_false := by
  intro n
  induction n with
  | zero =>
    intro p ex hn hm
    obtain rfl : p = [] := List.eq_nil_of_length_eq_zero (by omega)
    simp only [runes_nil, Option.isSome_some, if_true]
    refine loop_exit ?_ (by simp)
    simp -implicitDefEqProofs (maxSteps := 1000000) (disch := omega) only [↓Int.reduceLT, ↓Int.reduceLE, ↓Int.reduceEq, ↓Nat.reduceEqDiff, lt_T, lt_F, le_T, le_F, eq_T, eq_F, nlt_T, nlt_F, nle_T, nle_F, up_add, up_addL, up_mulL, up_1add, up_2add, up_sub, up_sub1, wrap_i64', wrap_i32', wrap_u64', wrap_u32', wrap_u8', Int.cast_ofNat_Int, s_call1, s_call2, s_call3, s_call4, s_call5, List.contains_cons, List.contains_nil, Nat.reduceBEq, Bool.or_true, Bool.or_false, Bool.true_or, Bool.false_or, ↓reduceIte, step_guard, e_guardW, e_guardWU, X_seq, x_reg, X_block, x_cond, X_ret, X_exit, X_skip, X_goto, X_label, condOf_eq, andThen_norm, andThen_exit, andThen_goto, andThen_ret, andThen_none, andThen_ite, outOf_norm, outOf_exit, outOf_goto, outOf_ret, outOf_none, outOf_ite, regEnd_ite, runL_ite, layD_ite, step_none, bound_none, bound_some, upd_at, get_nil, get_cons, St.toRS, restrict, keepEnv_nil, keepEnv_cons, keepBx_nil, keepBx_cons, initEnv, finO_ite, plainArgs, List.map_cons, List.map_nil, s_mov, s_pick, s_zbox, s_box, s_build, s_mk, s_load, s_store, s_bin, s_eqs, s_neg, s_not, s_cint, s_cstr, s_faddr, s_iaddr, s_aaddr, s_sidx, s_aidx, s_app, s_len, s_max2, s_make, s_slcs, s_slc, s_rng, s_nxt, s_ext, e_runL0, e_runL, e_runLn, e_layD, e_layV, e_put, e_put0, e_movOwn, e_movOwnC, e_movRead, e_movD, e_movL, e_movC, e_movT, e_pick, e_bin, e_binI, e_binS, e_binB, e_binE, e_add, e_sub, e_mul, e_quo, e_rem, e_and, e_or, e_xor, e_andNot, e_shl, e_shr, e_eql, e_neq, e_lss, e_leq, e_gtr, e_geq, e_sadd, e_seql, e_sneq, e_slss, e_sgtr, e_beql, e_bneq, e_eeql, e_eneq, e_eqs, e_neg, e_not, e_cint, e_cref, e_iaddr, e_byte, e_sidx, e_aidx, e_len, e_lenS, e_max2, e_make, e_slcs, e_slc, e_lenOfS, e_lenOf, e_nat, e_rng, e_ext, e_loadC, e_loadL, e_subB, e_store, e_storeB, e_faddrL, e_faddrC, e_aaddrL, e_aaddrC, e_zbox, e_zboxB, e_box, e_build, e_mk, e_app, e_appC, e_appS, e_appSC, e_nxt, e_dArgs, e_call, e_evT, e_evC, e_evG, e_crefO, e_evD, e_readD, e_readO, e_evI, e_intO, e_evDs, e_evDs0, e_consO, e_regEnd, e_condX, e_boolOf, e_keepD, e_keepO, e_keepC, e_keepT, e_keepI, e_keepL, e_keepN, e_keepB, e_keepBn, e_finN, e_finR, e_res1, e_resD, e_resO, e_dV, e_res1c, e_res2, e_tupO, e_resDs, e_resDs0, e_resS, e_resC, e_cellO, e_wholeI, e_wholeS, e_wholeB, e_wholeL, e_wholeA, reduceCtorEq, Bool.not_false, Bool.not_true, Bool.and_self, Bool.true_and, Bool.false_and, Option.isNone_none, Option.isNone_some, Option.isSome_some, Option.isSome_none, or_true, true_or, or_false, false_or, and_true, true_and, eq_self, decide_true, decide_false, Bool.false_eq_true, Bool.true_eq_false, decide_eq_true_eq, ite_true, ite_false, Nat.reduceEqDiff, Nat.reduceAdd, Nat.reduceMul, Int.reduceLT, Int.reduceLE, Int.reduceEq, Int.reduceNeg, Int.reduceAdd, Int.reduceToNat, Int.toNat_natCast, Int.natCast_nonneg, List.length_cons, List.length_nil, Int.reduceNe, ne_eq, not_false_eq_true, not_true_eq_false, Nat.reduceSub, Option.map_some, decide_not, e_cellsI, e_cellsS, e_cellsB, e_cellsL, e_cellsE, e_cellsA, List.all_cons, List.all_nil, beq_self_eq_true, Nat.mul_one, Int.reducePow, Int.reduceMul, List.replicate_zero, List.nil_append, Nat.zero_add, e_sh_u8_1, e_sh_u8_3, e_sh_u8_4, e_sh_u8_7, e_sh_u32_1, e_sh_u32_3, e_sh_u32_4, e_sh_u32_7, e_sh_u32_8, e_sh_u32_16, e_sh_u32_24, e_sh_u32_31, e_sh_u64_1, e_sh_u64_3, e_sh_u64_4, e_sh_u64_7, e_sh_u64_8, e_sh_u64_16, e_sh_u64_24, e_sh_u64_31, e_sh_u64_32, e_sh_u64_40, e_sh_u64_48, e_sh_u64_56, e_sh_u64_60, e_sh_u64_63, e_sh_i64_1, e_sh_i64_3, e_sh_i64_4, e_sh_i64_7, e_sh_i64_8, e_sh_i64_16, e_sh_i64_24, e_sh_i64_31, e_sh_i64_32, e_sh_i64_40, e_sh_i64_48, e_sh_i64_56, e_sh_i64_60, e_sh_i64_63, e_keepU, s_call0, l_unicode_utf8_Valid_1, v_st, bytesD_length]
  | succ n ih =>
    intro p ex hn hm
    cases p with
    | nil =>
      simp only [runes_nil, Option.isSome_some, if_true]
      refine loop_exit ?_ (by simp)
      simp -implicitDefEqProofs (maxSteps := 1000000) (disch := omega) only [↓Int.reduceLT, ↓Int.reduceLE, ↓Int.reduceEq, ↓Nat.reduceEqDiff, lt_T, lt_F, le_T, le_F, eq_T, eq_F, nlt_T, nlt_F, nle_T, nle_F, up_add, up_addL, up_mulL, up_1add, up_2add, up_sub, up_sub1, wrap_i64', wrap_i32', wrap_u64', wrap_u32', wrap_u8', Int.cast_ofNat_Int, s_call1, s_call2, s_call3, s_call4, s_call5, List.contains_cons, List.contains_nil, Nat.reduceBEq, Bool.or_true, Bool.or_false, Bool.true_or, Bool.false_or, ↓reduceIte, step_guard, e_guardW, e_guardWU, X_seq, x_reg, X_block, x_cond, X_ret, X_exit, X_skip, X_goto, X_label, condOf_eq, andThen_norm, andThen_exit, andThen_goto, andThen_ret, andThen_none, andThen_ite, outOf_norm, outOf_exit, outOf_goto, outOf_ret, outOf_none, outOf_ite, regEnd_ite, runL_ite, layD_ite, step_none, bound_none, bound_some, upd_at, get_nil, get_cons, St.toRS, restrict, keepEnv_nil, keepEnv_cons, keepBx_nil, keepBx_cons, initEnv, finO_ite, plainArgs, List.map_cons, List.map_nil, s_mov, s_pick, s_zbox, s_box, s_build, s_mk, s_load, s_store, s_bin, s_eqs, s_neg, s_not, s_cint, s_cstr, s_faddr, s_iaddr, s_aaddr, s_sidx, s_aidx, s_app, s_len, s_max2, s_make, s_slcs, s_slc, s_rng, s_nxt, s_ext, e_runL0, e_runL, e_runLn, e_layD, e_layV, e_put, e_put0, e_movOwn, e_movOwnC, e_movRead, e_movD, e_movL, e_movC, e_movT, e_pick, e_bin, e_binI, e_binS, e_binB, e_binE, e_add, e_sub, e_mul, e_quo, e_rem, e_and, e_or, e_xor, e_andNot, e_shl, e_shr, e_eql, e_neq, e_lss, e_leq, e_gtr, e_geq, e_sadd, e_seql, e_sneq, e_slss, e_sgtr, e_beql, e_bneq, e_eeql, e_eneq, e_eqs, e_neg, e_not, e_cint, e_cref, e_iaddr, e_byte, e_sidx, e_aidx, e_len, e_lenS, e_max2, e_make, e_slcs, e_slc, e_lenOfS, e_lenOf, e_nat, e_rng, e_ext, e_loadC, e_loadL, e_subB, e_store, e_storeB, e_faddrL, e_faddrC, e_aaddrL, e_aaddrC, e_zbox, e_zboxB, e_box, e_build, e_mk, e_app, e_appC, e_appS, e_appSC, e_nxt, e_dArgs, e_call, e_evT, e_evC, e_evG, e_crefO, e_evD, e_readD, e_readO, e_evI, e_intO, e_evDs, e_evDs0, e_consO, e_regEnd, e_condX, e_boolOf, e_keepD, e_keepO, e_keepC, e_keepT, e_keepI, e_keepL, e_keepN, e_keepB, e_keepBn, e_finN, e_finR, e_res1, e_resD, e_resO, e_dV, e_res1c, e_res2, e_tupO, e_resDs, e_resDs0, e_resS, e_resC, e_cellO, e_wholeI, e_wholeS, e_wholeB, e_wholeL, e_wholeA, reduceCtorEq, Bool.not_false, Bool.not_true, Bool.and_self, Bool.true_and, Bool.false_and, Option.isNone_none, Option.isNone_some, Option.isSome_some, Option.isSome_none, or_true, true_or, or_false, false_or, and_true, true_and, eq_self, decide_true, decide_false, Bool.false_eq_true, Bool.true_eq_false, decide_eq_true_eq, ite_true, ite_false, Nat.reduceEqDiff, Nat.reduceAdd, Nat.reduceMul, Int.reduceLT, Int.reduceLE, Int.reduceEq, Int.reduceNeg, Int.reduceAdd, Int.reduceToNat, Int.toNat_natCast, Int.natCast_nonneg, List.length_cons, List.length_nil, Int.reduceNe, ne_eq, not_false_eq_true, not_true_eq_false, Nat.reduceSub, Option.map_some, decide_not, e_cellsI, e_cellsS, e_cellsB, e_cellsL, e_cellsE, e_cellsA, List.all_cons, List.all_nil, beq_self_eq_true, Nat.mul_one, Int.reducePow, Int.reduceMul, List.replicate_zero, List.nil_append, Nat.zero_add, e_sh_u8_1, e_sh_u8_3, e_sh_u8_4, e_sh_u8_7, e_sh_u32_1, e_sh_u32_3, e_sh_u32_4, e_sh_u32_7, e_sh_u32_8, e_sh_u32_16, e_sh_u32_24, e_sh_u32_31, e_sh_u64_1, e_sh_u64_3, e_sh_u64_4, e_sh_u64_7, e_sh_u64_8, e_sh_u64_16, e_sh_u64_24, e_sh_u64_31, e_sh_u64_32, e_sh_u64_40, e_sh_u64_48, e_sh_u64_56, e_sh_u64_60, e_sh_u64_63, e_sh_i64_1, e_sh_i64_3, e_sh_i64_4, e_sh_i64_7, e_sh_i64_8, e_sh_i64_16, e_sh_i64_24, e_sh_i64_31, e_sh_i64_32, e_sh_i64_40, e_sh_i64_48, e_sh_i64_56, e_sh_i64_60, e_sh_i64_63, e_keepU, s_call0, l_unicode_utf8_Valid_1, v_st, bytesD_length]
    | cons c r =>
      simp only [List.length_cons] at hn hm
      by_cases h128 : c.toNat < 128
      · obtain ⟨k, ex', hk, hx⟩ := v_ascii c r hm h128 ex
        rw [X_loop, hx, runes_one h128, runes_asc k r hk, isSome_map, isSome_map]
        exact ih (r.drop k) ex' (by simp; omega) (by simp; omega)
      · have ho := v_other c r hm (by omega) ex
        rw [runes_cons, chr_eq]
        cases hk : chrT (c :: r) with
        | none =>
          rw [hk] at ho
          simp only [Option.isSome_none, Bool.false_eq_true, if_false]
          exact loop_exit ho (by simp [v_false])
        | some k =>
          rw [hk] at ho
          rw [← chr_eq] at hk
          obtain ⟨k1, k4, kl⟩ := chr_pos hk
          simp only [isSome_map] at ho ⊢
          rw [X_loop, ho]
          exact ih ((c :: r).drop k) [] (by simp; omega) (by simp; omega)

theorem uvalid_spec (p : List UInt8) (hm : p.length ≤ 140737488355328) : C M 18 [.d (.slice 1 (bytesD p))] = some (.d (.bool (runes p).isSome)) := by
  rw [c_fn (sf := f_unicode_utf8_Valid) rfl rfl ⟨rfl, rfl⟩]
  have hl := v_loop p.length p [] (Nat.le_refl _) hm
  have tk : (bytesD p).take p.length = bytesD p := by rw [bytesD_take, List.take_length]
  simp only [v_st] at hl
  cases hs : (runes p).isSome with
  | true =>
    simp only [hs, if_true] at hl
    simp -implicitDefEqProofs (maxSteps := 1000000) (disch := omega) only [↓Int.reduceLT, ↓Int.reduceLE, ↓Int.reduceEq, ↓Nat.reduceEqDiff, lt_T, lt_F, le_T, le_F, eq_T, eq_F, nlt_T, nlt_F, nle_T, nle_F, up_add, up_addL, up_mulL, up_1add, up_2add, up_sub, up_sub1, wrap_i64', wrap_i32', wrap_u64', wrap_u32', wrap_u8', Int.cast_ofNat_Int, s_call1, s_call2, s_call3, s_call4, s_call5, List.contains_cons, List.contains_nil, Nat.reduceBEq, Bool.or_true, Bool.or_false, Bool.true_or, Bool.false_or, ↓reduceIte, step_guard, e_guardW, e_guardWU, X_seq, x_reg, X_block, x_cond, X_ret, X_exit, X_skip, X_goto, X_label, condOf_eq, andThen_norm, andThen_exit, andThen_goto, andThen_ret, andThen_none, andThen_ite, outOf_norm, outOf_exit, outOf_goto, outOf_ret, outOf_none, outOf_ite, regEnd_ite, runL_ite, layD_ite, step_none, bound_none, bound_some, upd_at, get_nil, get_cons, St.toRS, restrict, keepEnv_nil, keepEnv_cons, keepBx_nil, keepBx_cons, initEnv, finO_ite, plainArgs, List.map_cons, List.map_nil, s_mov, s_pick, s_zbox, s_box, s_build, s_mk, s_load, s_store, s_bin, s_eqs, s_neg, s_not, s_cint, s_cstr, s_faddr, s_iaddr, s_aaddr, s_sidx, s_aidx, s_app, s_len, s_max2, s_make, s_slcs, s_slc, s_rng, s_nxt, s_ext, e_runL0, e_runL, e_runLn, e_layD, e_layV, e_put, e_put0, e_movOwn, e_movOwnC, e_movRead, e_movD, e_movL, e_movC, e_movT, e_pick, e_bin, e_binI, e_binS, e_binB, e_binE, e_add, e_sub, e_mul, e_quo, e_rem, e_and, e_or, e_xor, e_andNot, e_shl, e_shr, e_eql, e_neq, e_lss, e_leq, e_gtr, e_geq, e_sadd, e_seql, e_sneq, e_slss, e_sgtr, e_beql, e_bneq, e_eeql, e_eneq, e_eqs, e_neg, e_not, e_cint, e_cref, e_iaddr, e_byte, e_sidx, e_aidx, e_len, e_lenS, e_max2, e_make, e_slcs, e_slc, e_lenOfS, e_lenOf, e_nat, e_rng, e_ext, e_loadC, e_loadL, e_subB, e_store, e_storeB, e_faddrL, e_faddrC, e_aaddrL, e_aaddrC, e_zbox, e_zboxB, e_box, e_build, e_mk, e_app, e_appC, e_appS, e_appSC, e_nxt, e_dArgs, e_call, e_evT, e_evC, e_evG, e_crefO, e_evD, e_readD, e_readO, e_evI, e_intO, e_evDs, e_evDs0, e_consO, e_regEnd, e_condX, e_boolOf, e_keepD, e_keepO, e_keepC, e_keepT, e_keepI, e_keepL, e_keepN, e_keepB, e_keepBn, e_finN, e_finR, e_res1, e_resD, e_resO, e_dV, e_res1c, e_res2, e_tupO, e_resDs, e_resDs0, e_resS, e_resC, e_cellO, e_wholeI, e_wholeS, e_wholeB, e_wholeL, e_wholeA, reduceCtorEq, Bool.not_false, Bool.not_true, Bool.and_self, Bool.true_and, Bool.false_and, Option.isNone_none, Option.isNone_some, Option.isSome_some, Option.isSome_none, or_true, true_or, or_false, false_or, and_true, true_and, eq_self, decide_true, decide_false, Bool.false_eq_true, Bool.true_eq_false, decide_eq_true_eq, ite_true, ite_false, Nat.reduceEqDiff, Nat.reduceAdd, Nat.reduceMul, Int.reduceLT, Int.reduceLE, Int.reduceEq, Int.reduceNeg, Int.reduceAdd, Int.reduceToNat, Int.toNat_natCast, Int.natCast_nonneg, List.length_cons, List.length_nil, Int.reduceNe, ne_eq, not_false_eq_true, not_true_eq_false, Nat.reduceSub, Option.map_some, decide_not, e_cellsI, e_cellsS, e_cellsB, e_cellsL, e_cellsE, e_cellsA, List.all_cons, List.all_nil, beq_self_eq_true, Nat.mul_one, Int.reducePow, Int.reduceMul, List.replicate_zero, List.nil_append, Nat.zero_add, e_sh_u8_1, e_sh_u8_3, e_sh_u8_4, e_sh_u8_7, e_sh_u32_1, e_sh_u32_3, e_sh_u32_4, e_sh_u32_7, e_sh_u32_8, e_sh_u32_16, e_sh_u32_24, e_sh_u32_31, e_sh_u64_1, e_sh_u64_3, e_sh_u64_4, e_sh_u64_7, e_sh_u64_8, e_sh_u64_16, e_sh_u64_24, e_sh_u64_31, e_sh_u64_32, e_sh_u64_40, e_sh_u64_48, e_sh_u64_56, e_sh_u64_60, e_sh_u64_63, e_sh_i64_1, e_sh_i64_3, e_sh_i64_4, e_sh_i64_7, e_sh_i64_8, e_sh_i64_16, e_sh_i64_24, e_sh_i64_31, e_sh_i64_32, e_sh_i64_40, e_sh_i64_48, e_sh_i64_56, e_sh_i64_60, e_sh_i64_63, e_keepU, s_call0, f_unicode_utf8_Valid, bytesD_length, tk, List.drop_zero, hl]
  | false =>
    simp only [hs, v_false, Bool.false_eq_true, if_false] at hl
    simp -implicitDefEqProofs (maxSteps := 1000000) (disch := omega) only [↓Int.reduceLT, ↓Int.reduceLE, ↓Int.reduceEq, ↓Nat.reduceEqDiff, lt_T, lt_F, le_T, le_F, eq_T, eq_F, nlt_T, nlt_F, nle_T, nle_F, up_add, up_addL, up_mulL, up_1add, up_2add, up_sub, up_sub1, wrap_i64', wrap_i32', wrap_u64', wrap_u32', wrap_u8', Int.cast_ofNat_Int, s_call1, s_call2, s_call3, s_call4, s_call5, List.contains_cons, List.contains_nil, Nat.reduceBEq, Bool.or_true, Bool.or_false, Bool.true_or, Bool.false_or, ↓reduceIte, step_guard, e_guardW, e_guardWU, X_seq, x_reg, X_block, x_cond, X_ret, X_exit, X_skip, X_goto, X_label, condOf_eq, andThen_norm, andThen_exit, andThen_goto, andThen_ret, andThen_none, andThen_ite, outOf_norm, outOf_exit, outOf_goto, outOf_ret, outOf_none, outOf_ite, regEnd_ite, runL_ite, layD_ite, step_none, bound_none, bound_some, upd_at, get_nil, get_cons, St.toRS, restrict, keepEnv_nil, keepEnv_cons, keepBx_nil, keepBx_cons, initEnv, finO_ite, plainArgs, List.map_cons, List.map_nil, s_mov, s_pick, s_zbox, s_box, s_build, s_mk, s_load, s_store, s_bin, s_eqs, s_neg, s_not, s_cint, s_cstr, s_faddr, s_iaddr, s_aaddr, s_sidx, s_aidx, s_app, s_len, s_max2, s_make, s_slcs, s_slc, s_rng, s_nxt, s_ext, e_runL0, e_runL, e_runLn, e_layD, e_layV, e_put, e_put0, e_movOwn, e_movOwnC, e_movRead, e_movD, e_movL, e_movC, e_movT, e_pick, e_bin, e_binI, e_binS, e_binB, e_binE, e_add, e_sub, e_mul, e_quo, e_rem, e_and, e_or, e_xor, e_andNot, e_shl, e_shr, e_eql, e_neq, e_lss, e_leq, e_gtr, e_geq, e_sadd, e_seql, e_sneq, e_slss, e_sgtr, e_beql, e_bneq, e_eeql, e_eneq, e_eqs, e_neg, e_not, e_cint, e_cref, e_iaddr, e_byte, e_sidx, e_aidx, e_len, e_lenS, e_max2, e_make, e_slcs, e_slc, e_lenOfS, e_lenOf, e_nat, e_rng, e_ext, e_loadC, e_loadL, e_subB, e_store, e_storeB, e_faddrL, e_faddrC, e_aaddrL, e_aaddrC, e_zbox, e_zboxB, e_box, e_build, e_mk, e_app, e_appC, e_appS, e_appSC, e_nxt, e_dArgs, e_call, e_evT, e_evC, e_evG, e_crefO, e_evD, e_readD, e_readO, e_evI, e_intO, e_evDs, e_evDs0, e_consO, e_regEnd, e_condX, e_boolOf, e_keepD, e_keepO, e_keepC, e_keepT, e_keepI, e_keepL, e_keepN, e_keepB, e_keepBn, e_finN, e_finR, e_res1, e_resD, e_resO, e_dV, e_res1c, e_res2, e_tupO, e_resDs, e_resDs0, e_resS, e_resC, e_cellO, e_wholeI, e_wholeS, e_wholeB, e_wholeL, e_wholeA, reduceCtorEq, Bool.not_false, Bool.not_true, Bool.and_self, Bool.true_and, Bool.false_and, Option.isNone_none, Option.isNone_some, Option.isSome_some, Option.isSome_none, or_true, true_or, or_false, false_or, and_true, true_and, eq_self, decide_true, decide_false, Bool.false_eq_true, Bool.true_eq_false, decide_eq_true_eq, ite_true, ite_false, Nat.reduceEqDiff, Nat.reduceAdd, Nat.reduceMul, Int.reduceLT, Int.reduceLE, Int.reduceEq, Int.reduceNeg, Int.reduceAdd, Int.reduceToNat, Int.toNat_natCast, Int.natCast_nonneg, List.length_cons, List.length_nil, Int.reduceNe, ne_eq, not_false_eq_true, not_true_eq_false, Nat.reduceSub, Option.map_some, decide_not, e_cellsI, e_cellsS, e_cellsB, e_cellsL, e_cellsE, e_cellsA, List.all_cons, List.all_nil, beq_self_eq_true, Nat.mul_one, Int.reducePow, Int.reduceMul, List.replicate_zero, List.nil_append, Nat.zero_add, e_sh_u8_1, e_sh_u8_3, e_sh_u8_4, e_sh_u8_7, e_sh_u32_1, e_sh_u32_3, e_sh_u32_4, e_sh_u32_7, e_sh_u32_8, e_sh_u32_16, e_sh_u32_24, e_sh_u32_31, e_sh_u64_1, e_sh_u64_3, e_sh_u64_4, e_sh_u64_7, e_sh_u64_8, e_sh_u64_16, e_sh_u64_24, e_sh_u64_31, e_sh_u64_32, e_sh_u64_40, e_sh_u64_48, e_sh_u64_56, e_sh_u64_60, e_sh_u64_63, e_sh_i64_1, e_sh_i64_3, e_sh_i64_4, e_sh_i64_7, e_sh_i64_8, e_sh_i64_16, e_sh_i64_24, e_sh_i64_31, e_sh_i64_32, e_sh_i64_40, e_sh_i64_48, e_sh_i64_56, e_sh_i64_60, e_sh_i64_63, e_keepU, s_call0, f_unicode_utf8_Valid, bytesD_length, tk, List.drop_zero, hl]

theorem valid_spec (p : List UInt8) (hm : p.length ≤ 140737488355328) : C M 12 [.d (.slice 1 (bytesD p))] = some (.d (.bool (runes p).isSome)) := by
  rw [c_fn (sf := f_quote_Valid) rfl rfl ⟨rfl, rfl⟩]
  have h := uvalid_spec p hm
  simp -implicitDefEqProofs (maxSteps := 1000000) (disch := omega) only [↓Int.reduceLT, ↓Int.reduceLE, ↓Int.reduceEq, ↓Nat.reduceEqDiff, lt_T, lt_F, le_T, le_F, eq_T, eq_F, nlt_T, nlt_F, nle_T, nle_F, up_add, up_addL, up_mulL, up_1add, up_2add, up_sub, up_sub1, wrap_i64', wrap_i32', wrap_u64', wrap_u32', wrap_u8', Int.cast_ofNat_Int, s_call1, s_call2, s_call3, s_call4, s_call5, List.contains_cons, List.contains_nil, Nat.reduceBEq, Bool.or_true, Bool.or_false, Bool.true_or, Bool.false_or, ↓reduceIte, step_guard, e_guardW, e_guardWU, X_seq, x_reg, X_block, x_cond, X_ret, X_exit, X_skip, X_goto, X_label, condOf_eq, andThen_norm, andThen_exit, andThen_goto, andThen_ret, andThen_none, andThen_ite, outOf_norm, outOf_exit, outOf_goto, outOf_ret, outOf_none, outOf_ite, regEnd_ite, runL_ite, layD_ite, step_none, bound_none, bound_some, upd_at, get_nil, get_cons, St.toRS, restrict, keepEnv_nil, keepEnv_cons, keepBx_nil, keepBx_cons, initEnv, finO_ite, plainArgs, List.map_cons, List.map_nil, s_mov, s_pick, s_zbox, s_box, s_build, s_mk, s_load, s_store, s_bin, s_eqs, s_neg, s_not, s_cint, s_cstr, s_faddr, s_iaddr, s_aaddr, s_sidx, s_aidx, s_app, s_len, s_max2, s_make, s_slcs, s_slc, s_rng, s_nxt, s_ext, e_runL0, e_runL, e_runLn, e_layD, e_layV, e_put, e_put0, e_movOwn, e_movOwnC, e_movRead, e_movD, e_movL, e_movC, e_movT, e_pick, e_bin, e_binI, e_binS, e_binB, e_binE, e_add, e_sub, e_mul, e_quo, e_rem, e_and, e_or, e_xor, e_andNot, e_shl, e_shr, e_eql, e_neq, e_lss, e_leq, e_gtr, e_geq, e_sadd, e_seql, e_sneq, e_slss, e_sgtr, e_beql, e_bneq, e_eeql, e_eneq, e_eqs, e_neg, e_not, e_cint, e_cref, e_iaddr, e_byte, e_sidx, e_aidx, e_len, e_lenS, e_max2, e_make, e_slcs, e_slc, e_lenOfS, e_lenOf, e_nat, e_rng, e_ext, e_loadC, e_loadL, e_subB, e_store, e_storeB, e_faddrL, e_faddrC, e_aaddrL, e_aaddrC, e_zbox, e_zboxB, e_box, e_build, e_mk, e_app, e_appC, e_appS, e_appSC, e_nxt, e_dArgs, e_call, e_evT, e_evC, e_evG, e_crefO, e_evD, e_readD, e_readO, e_evI, e_intO, e_evDs, e_evDs0, e_consO, e_regEnd, e_condX, e_boolOf, e_keepD, e_keepO, e_keepC, e_keepT, e_keepI, e_keepL, e_keepN, e_keepB, e_keepBn, e_finN, e_finR, e_res1, e_resD, e_resO, e_dV, e_res1c, e_res2, e_tupO, e_resDs, e_resDs0, e_resS, e_resC, e_cellO, e_wholeI, e_wholeS, e_wholeB, e_wholeL, e_wholeA, reduceCtorEq, Bool.not_false, Bool.not_true, Bool.and_self, Bool.true_and, Bool.false_and, Option.isNone_none, Option.isNone_some, Option.isSome_some, Option.isSome_none, or_true, true_or, or_false, false_or, and_true, true_and, eq_self, decide_true, decide_false, Bool.false_eq_true, Bool.true_eq_false, decide_eq_true_eq, ite_true, ite_false, Nat.reduceEqDiff, Nat.reduceAdd, Nat.reduceMul, Int.reduceLT, Int.reduceLE, Int.reduceEq, Int.reduceNeg, Int.reduceAdd, Int.reduceToNat, Int.toNat_natCast, Int.natCast_nonneg, List.length_cons, List.length_nil, Int.reduceNe, ne_eq, not_false_eq_true, not_true_eq_false, Nat.reduceSub, Option.map_some, decide_not, e_cellsI, e_cellsS, e_cellsB, e_cellsL, e_cellsE, e_cellsA, List.all_cons, List.all_nil, beq_self_eq_true, Nat.mul_one, Int.reducePow, Int.reduceMul, List.replicate_zero, List.nil_append, Nat.zero_add, e_sh_u8_1, e_sh_u8_3, e_sh_u8_4, e_sh_u8_7, e_sh_u32_1, e_sh_u32_3, e_sh_u32_4, e_sh_u32_7, e_sh_u32_8, e_sh_u32_16, e_sh_u32_24, e_sh_u32_31, e_sh_u64_1, e_sh_u64_3, e_sh_u64_4, e_sh_u64_7, e_sh_u64_8, e_sh_u64_16, e_sh_u64_24, e_sh_u64_31, e_sh_u64_32, e_sh_u64_40, e_sh_u64_48, e_sh_u64_56, e_sh_u64_60, e_sh_u64_63, e_sh_i64_1, e_sh_i64_3, e_sh_i64_4, e_sh_i64_7, e_sh_i64_8, e_sh_i64_16, e_sh_i64_24, e_sh_i64_31, e_sh_i64_32, e_sh_i64_40, e_sh_i64_48, e_sh_i64_56, e_sh_i64_60, e_sh_i64_63, e_keepU, s_call0, f_quote_Valid, h]

/-! ### The characters of a string -/
def dec (d : List UInt8) : Nat × Nat :=
  let at' (k : Nat) : Nat := (d[k]?.getD 0).toNat
  let cont (k : Nat) : Bool := k < d.length && at' k / 64 == 2
  let b0 := at' 0
  if b0 < 0x80 then (b0, 1)
  else if b0 / 32 == 6 && cont 1 then
    let c := (b0 % 32) * 64 + at' 1 % 64
    if c ≥ 0x80 then (c, 2) else (Utf8.runeError, 1)
  else if b0 / 16 == 14 && cont 1 && cont 2 then
    let c := (b0 % 16) * 4096 + (at' 1 % 64) * 64 + at' 2 % 64
    if c ≥ 0x800 && Utf8.valid c then (c, 3) else (Utf8.runeError, 1)
  else if b0 / 8 == 30 && cont 1 && cont 2 && cont 3 then
    let c := (b0 % 8) * 262144 + (at' 1 % 64) * 4096 + (at' 2 % 64) * 64 + at' 3 % 64
    if c ≥ 0x10000 && Utf8.valid c then (c, 4) else (Utf8.runeError, 1)
  else (Utf8.runeError, 1)

theorem decode_dec (l : List UInt8) (pos : Nat) (h : pos ≤ l.length) : Utf8.decode ⟨l.toArray⟩ pos = dec (l.drop pos) := by
  have a : ∀ k, (ByteArray.get! ⟨l.toArray⟩ (pos + k)) = ((l.drop pos)[k]?.getD 0) := by
    intro k
    rw [List.getElem?_drop]
    show l.toArray[pos + k]! = _
    rw [getElem!_def, List.getElem?_toArray]
    cases l[pos + k]? <;> rfl
  have s : ByteArray.size ⟨l.toArray⟩ = l.length := rfl
  have b : ∀ k, (decide (pos + k < l.length)) = decide (k < (l.drop pos).length) := by
    intro k; simp only [List.length_drop]; exact decide_eq_decide.2 (by omega)
  simp only [Utf8.decode, dec, a, s, b]

theorem tailV_open {size : Nat} {v low : Int} {r : List UInt8} {k : Nat} (h : tailV size v low r = some k) : k = size ∧ size ≤ r.length + 1 ∧ ∃ w, cont (r.take (size - 1)) v = some w ∧ low ≤ w ∧ w ≤ 1114111 ∧ (w < 55296 ∨ 57343 < w) := by
  simp only [tailV] at h
  split at h
  · cases h
  · split at h
    · cases h
    · rename_i w hw
      cases ho : okV low w with
      | false => rw [ho] at h; cases h
      | true =>
        rw [ho] at h
        simp only [okV, decide_eq_true_eq] at ho
        cases h
        exact ⟨rfl, by omega, w, hw, ho⟩
theorem cont_cons {d : UInt8} {r : List UInt8} {v w : Int} (h : cont (d :: r) v = some w) : 128 ≤ d.toNat ∧ d.toNat ≤ 191 ∧ cont r (v * 64 + d.toNat - 128) = some w := by
  simp only [cont] at h
  cases hd : conB d with
  | false => rw [hd] at h; cases h
  | true =>
    rw [hd] at h
    simp only [conB, decide_eq_true_eq] at hd
    exact ⟨hd.1, hd.2, by simpa using h⟩

theorem dec_size {c : UInt8} {r : List UInt8} {k : Nat} (h : chr (c :: r) = some k) : (dec (c :: r)).2 = k := by
  have hc := c.toNat_lt
  simp only [chr] at h
  by_cases h128 : c.toNat < 128
  · simp only [h128, if_true, Option.some.injEq] at h
    subst h
    simp [dec, h128]
  simp only [h128, if_false] at h
  by_cases h192 : c.toNat < 192
  · simp only [h192, if_true] at h; cases h
  simp only [h192, if_false] at h
  by_cases h224 : c.toNat < 224
  · simp only [h224, if_true] at h
    obtain ⟨rfl, hl, w, hw, o1, o2, o3⟩ := tailV_open h
    match r, hl, hw with
    | d :: r, hl, hw =>
      simp only [Nat.reduceSub, List.take_succ_cons, List.take_zero] at hw
      obtain ⟨d1, d2, hw⟩ := cont_cons hw
      simp only [cont, Option.some.injEq] at hw
      simp only [dec, List.getElem?_cons_zero, List.getElem?_cons_succ, Option.getD_some, List.length_cons]
      rw [if_neg (by omega), if_pos (by simp only [Bool.and_eq_true, beq_iff_eq, decide_eq_true_eq]; omega), if_pos (by omega)]
  simp only [h224, if_false] at h
  by_cases h240 : c.toNat < 240
  · simp only [h240, if_true] at h
    obtain ⟨rfl, hl, w, hw, o1, o2, o3⟩ := tailV_open h
    match r, hl, hw with
    | d :: e :: r, hl, hw =>
      simp only [Nat.reduceSub, List.take_succ_cons, List.take_zero] at hw
      obtain ⟨d1, d2, hw⟩ := cont_cons hw
      obtain ⟨e1, e2, hw⟩ := cont_cons hw
      simp only [cont, Option.some.injEq] at hw
      simp only [dec, List.getElem?_cons_zero, List.getElem?_cons_succ, Option.getD_some, List.length_cons]
      rw [if_neg (by omega), if_neg (by simp only [Bool.and_eq_true, beq_iff_eq, decide_eq_true_eq]; omega), if_pos (by simp only [Bool.and_eq_true, beq_iff_eq, decide_eq_true_eq]; omega),
        if_pos (by simp only [Utf8.valid, Bool.and_eq_true, Bool.or_eq_true, decide_eq_true_eq]; omega)]
  simp only [h240, if_false] at h
  by_cases h248 : c.toNat < 248
  · simp only [h248, if_true] at h
    obtain ⟨rfl, hl, w, hw, o1, o2, o3⟩ := tailV_open h
    match r, hl, hw with
    | d :: e :: f :: r, hl, hw =>
      simp only [Nat.reduceSub, List.take_succ_cons, List.take_zero] at hw
      obtain ⟨d1, d2, hw⟩ := cont_cons hw
      obtain ⟨e1, e2, hw⟩ := cont_cons hw
      obtain ⟨f1, f2, hw⟩ := cont_cons hw
      simp only [cont, Option.some.injEq] at hw
      simp only [dec, List.getElem?_cons_zero, List.getElem?_cons_succ, Option.getD_some, List.length_cons]
      rw [if_neg (by omega), if_neg (by simp only [Bool.and_eq_true, beq_iff_eq, decide_eq_true_eq]; omega), if_neg (by simp only [Bool.and_eq_true, beq_iff_eq, decide_eq_true_eq]; omega),
        if_pos (by simp only [Bool.and_eq_true, beq_iff_eq, decide_eq_true_eq]; omega), if_pos (by simp only [Utf8.valid, Bool.and_eq_true, Bool.or_eq_true, decide_eq_true_eq]; omega)]
  · simp only [h248, if_false] at h; cases h

theorem runes_le : ∀ (n : Nat) (b : List UInt8), b.length ≤ n → ∀ m, runes b = some m → m ≤ b.length := by
  intro n
  induction n with
  | zero =>
    intro b hb m h
    obtain rfl : b = [] := List.eq_nil_of_length_eq_zero (by omega)
    simp only [runes_nil, Option.some.injEq] at h; omega
  | succ n ih =>
    intro b hb m h
    cases b with
    | nil => simp only [runes_nil, Option.some.injEq] at h; omega
    | cons c r =>
      rw [runes_cons] at h
      cases hk : chr (c :: r) with
      | none => rw [hk] at h; cases h
      | some k =>
        rw [hk] at h
        obtain ⟨k1, k4, kl⟩ := chr_pos hk
        simp only [Option.map_eq_some_iff] at h
        obtain ⟨m', hm, rfl⟩ := h
        simp only [List.length_cons] at hb ⊢
        have := ih ((c :: r).drop k) (by simp; omega) m' hm
        simp only [List.length_drop, List.length_cons] at this
        omega

def r_st (b : List UInt8) (n pos : Nat) : St := { env := [(3, .d (.int .i64 n)), (9, .iter b pos)], bx := [] }
theorem r_loop (b : List UInt8) (hb : b.length ≤ 140737488355328) : ∀ (f n pos m : Nat), n ≤ pos → pos ≤ b.length → b.length - pos ≤ f → runes (b.drop pos) = some m →
    X M (.loop l_quote_Runes_1) (r_st b n pos) = some (.exit 0, { env := [(3, .d (.int .i64 (n + m : Nat))), (9, .iter b b.length), (11, .d (.bool false))], bx := [] }) := by
  intro f
  induction f with
  | zero =>
    intro n pos m hn hp hf hm
    obtain rfl : pos = b.length := by omega
    rw [List.drop_length, runes_nil, Option.some.injEq] at hm
    subst hm
    refine loop_exit ?_ (by simp)
    simp -implicitDefEqProofs (maxSteps := 1000000) (disch := omega) only [↓Int.reduceLT, ↓Int.reduceLE, ↓Int.reduceEq, ↓Nat.reduceEqDiff, lt_T, lt_F, le_T, le_F, eq_T, eq_F, nlt_T, nlt_F, nle_T, nle_F, up_add, up_addL, up_mulL, up_1add, up_2add, up_sub, up_sub1, wrap_i64', wrap_i32', wrap_u64', wrap_u32', wrap_u8', Int.cast_ofNat_Int, s_call1, s_call2, s_call3, s_call4, s_call5, List.contains_cons, List.contains_nil, Nat.reduceBEq, Bool.or_true, Bool.or_false, Bool.true_or, Bool.false_or, ↓reduceIte, step_guard, e_guardW, e_guardWU, X_seq, x_reg, X_block, x_cond, X_ret, X_exit, X_skip, X_goto, X_label, condOf_eq, andThen_norm, andThen_exit, andThen_goto, andThen_ret, andThen_none, andThen_ite, outOf_norm, outOf_exit, outOf_goto, outOf_ret, outOf_none, outOf_ite, regEnd_ite, runL_ite, layD_ite, step_none, bound_none, bound_some, upd_at, get_nil, get_cons, St.toRS, restrict, keepEnv_nil, keepEnv_cons, keepBx_nil, keepBx_cons, initEnv, finO_ite, plainArgs, List.map_cons, List.map_nil, s_mov, s_pick, s_zbox, s_box, s_build, s_mk, s_load, s_store, s_bin, s_eqs, s_neg, s_not, s_cint, s_cstr, s_faddr, s_iaddr, s_aaddr, s_sidx, s_aidx, s_app, s_len, s_max2, s_make, s_slcs, s_slc, s_rng, s_nxt, s_ext, e_runL0, e_runL, e_runLn, e_layD, e_layV, e_put, e_put0, e_movOwn, e_movOwnC, e_movRead, e_movD, e_movL, e_movC, e_movT, e_pick, e_bin, e_binI, e_binS, e_binB, e_binE, e_add, e_sub, e_mul, e_quo, e_rem, e_and, e_or, e_xor, e_andNot, e_shl, e_shr, e_eql, e_neq, e_lss, e_leq, e_gtr, e_geq, e_sadd, e_seql, e_sneq, e_slss, e_sgtr, e_beql, e_bneq, e_eeql, e_eneq, e_eqs, e_neg, e_not, e_cint, e_cref, e_iaddr, e_byte, e_sidx, e_aidx, e_len, e_lenS, e_max2, e_make, e_slcs, e_slc, e_lenOfS, e_lenOf, e_nat, e_rng, e_ext, e_loadC, e_loadL, e_subB, e_store, e_storeB, e_faddrL, e_faddrC, e_aaddrL, e_aaddrC, e_zbox, e_zboxB, e_box, e_build, e_mk, e_app, e_appC, e_appS, e_appSC, e_nxt, e_dArgs, e_call, e_evT, e_evC, e_evG, e_crefO, e_evD, e_readD, e_readO, e_evI, e_intO, e_evDs, e_evDs0, e_consO, e_regEnd, e_condX, e_boolOf, e_keepD, e_keepO, e_keepC, e_keepT, e_keepI, e_keepL, e_keepN, e_keepB, e_keepBn, e_finN, e_finR, e_res1, e_resD, e_resO, e_dV, e_res1c, e_res2, e_tupO, e_resDs, e_resDs0, e_resS, e_resC, e_cellO, e_wholeI, e_wholeS, e_wholeB, e_wholeL, e_wholeA, reduceCtorEq, Bool.not_false, Bool.not_true, Bool.and_self, Bool.true_and, Bool.false_and, Option.isNone_none, Option.isNone_some, Option.isSome_some, Option.isSome_none, or_true, true_or, or_false, false_or, and_true, true_and, eq_self, decide_true, decide_false, Bool.false_eq_true, Bool.true_eq_false, decide_eq_true_eq, ite_true, ite_false, Nat.reduceEqDiff, Nat.reduceAdd, Nat.reduceMul, Int.reduceLT, Int.reduceLE, Int.reduceEq, Int.reduceNeg, Int.reduceAdd, Int.reduceToNat, Int.toNat_natCast, Int.natCast_nonneg, List.length_cons, List.length_nil, Int.reduceNe, ne_eq, not_false_eq_true, not_true_eq_false, Nat.reduceSub, Option.map_some, decide_not, e_cellsI, e_cellsS, e_cellsB, e_cellsL, e_cellsE, e_cellsA, List.all_cons, List.all_nil, beq_self_eq_true, Nat.mul_one, Int.reducePow, Int.reduceMul, List.replicate_zero, List.nil_append, Nat.zero_add, e_sh_u8_1, e_sh_u8_3, e_sh_u8_4, e_sh_u8_7, e_sh_u32_1, e_sh_u32_3, e_sh_u32_4, e_sh_u32_7, e_sh_u32_8, e_sh_u32_16, e_sh_u32_24, e_sh_u32_31, e_sh_u64_1, e_sh_u64_3, e_sh_u64_4, e_sh_u64_7, e_sh_u64_8, e_sh_u64_16, e_sh_u64_24, e_sh_u64_31, e_sh_u64_32, e_sh_u64_40, e_sh_u64_48, e_sh_u64_56, e_sh_u64_60, e_sh_u64_63, e_sh_i64_1, e_sh_i64_3, e_sh_i64_4, e_sh_i64_7, e_sh_i64_8, e_sh_i64_16, e_sh_i64_24, e_sh_i64_31, e_sh_i64_32, e_sh_i64_40, e_sh_i64_48, e_sh_i64_56, e_sh_i64_60, e_sh_i64_63, e_keepU, s_call0, l_quote_Runes_1, r_st, Nat.add_zero, List.getElem?_cons_zero]
  | succ f ih =>
    intro n pos m hn hp hf hm
    rcases Nat.lt_or_ge pos b.length with hlt | hge
    · have hd : b.drop pos = b[pos] :: b.drop (pos + 1) := List.drop_eq_getElem_cons hlt
      rw [hd, runes_cons] at hm
      cases hk : chr (b[pos] :: b.drop (pos + 1)) with
      | none => rw [hk] at hm; cases hm
      | some k =>
        rw [hk] at hm
        obtain ⟨k1, k4, kl⟩ := chr_pos hk
        have hz := dec_size hk
        simp only [← hd, Option.map_eq_some_iff, List.drop_drop] at hm hz
        obtain ⟨m', hm, rfl⟩ := hm
        rw [← decode_dec b pos hp] at hz
        simp only [List.length_drop] at kl
        have hr : X M l_quote_Runes_1 (r_st b n pos) = some (.norm, r_st b (n + 1) (pos + k)) := by
          simp -implicitDefEqProofs (maxSteps := 1000000) (disch := omega) only [↓Int.reduceLT, ↓Int.reduceLE, ↓Int.reduceEq, ↓Nat.reduceEqDiff, lt_T, lt_F, le_T, le_F, eq_T, eq_F, nlt_T, nlt_F, nle_T, nle_F, up_add, up_addL, up_mulL, up_1add, up_2add, up_sub, up_sub1, wrap_i64', wrap_i32', wrap_u64', wrap_u32', wrap_u8', Int.cast_ofNat_Int, s_call1, s_call2, s_call3, s_call4, s_call5, List.contains_cons, List.contains_nil, Nat.reduceBEq, Bool.or_true, Bool.or_false, Bool.true_or, Bool.false_or, ↓reduceIte, step_guard, e_guardW, e_guardWU, X_seq, x_reg, X_block, x_cond, X_ret, X_exit, X_skip, X_goto, X_label, condOf_eq, andThen_norm, andThen_exit, andThen_goto, andThen_ret, andThen_none, andThen_ite, outOf_norm, outOf_exit, outOf_goto, outOf_ret, outOf_none, outOf_ite, regEnd_ite, runL_ite, layD_ite, step_none, bound_none, bound_some, upd_at, get_nil, get_cons, St.toRS, restrict, keepEnv_nil, keepEnv_cons, keepBx_nil, keepBx_cons, initEnv, finO_ite, plainArgs, List.map_cons, List.map_nil, s_mov, s_pick, s_zbox, s_box, s_build, s_mk, s_load, s_store, s_bin, s_eqs, s_neg, s_not, s_cint, s_cstr, s_faddr, s_iaddr, s_aaddr, s_sidx, s_aidx, s_app, s_len, s_max2, s_make, s_slcs, s_slc, s_rng, s_nxt, s_ext, e_runL0, e_runL, e_runLn, e_layD, e_layV, e_put, e_put0, e_movOwn, e_movOwnC, e_movRead, e_movD, e_movL, e_movC, e_movT, e_pick, e_bin, e_binI, e_binS, e_binB, e_binE, e_add, e_sub, e_mul, e_quo, e_rem, e_and, e_or, e_xor, e_andNot, e_shl, e_shr, e_eql, e_neq, e_lss, e_leq, e_gtr, e_geq, e_sadd, e_seql, e_sneq, e_slss, e_sgtr, e_beql, e_bneq, e_eeql, e_eneq, e_eqs, e_neg, e_not, e_cint, e_cref, e_iaddr, e_byte, e_sidx, e_aidx, e_len, e_lenS, e_max2, e_make, e_slcs, e_slc, e_lenOfS, e_lenOf, e_nat, e_rng, e_ext, e_loadC, e_loadL, e_subB, e_store, e_storeB, e_faddrL, e_faddrC, e_aaddrL, e_aaddrC, e_zbox, e_zboxB, e_box, e_build, e_mk, e_app, e_appC, e_appS, e_appSC, e_nxt, e_dArgs, e_call, e_evT, e_evC, e_evG, e_crefO, e_evD, e_readD, e_readO, e_evI, e_intO, e_evDs, e_evDs0, e_consO, e_regEnd, e_condX, e_boolOf, e_keepD, e_keepO, e_keepC, e_keepT, e_keepI, e_keepL, e_keepN, e_keepB, e_keepBn, e_finN, e_finR, e_res1, e_resD, e_resO, e_dV, e_res1c, e_res2, e_tupO, e_resDs, e_resDs0, e_resS, e_resC, e_cellO, e_wholeI, e_wholeS, e_wholeB, e_wholeL, e_wholeA, reduceCtorEq, Bool.not_false, Bool.not_true, Bool.and_self, Bool.true_and, Bool.false_and, Option.isNone_none, Option.isNone_some, Option.isSome_some, Option.isSome_none, or_true, true_or, or_false, false_or, and_true, true_and, eq_self, decide_true, decide_false, Bool.false_eq_true, Bool.true_eq_false, decide_eq_true_eq, ite_true, ite_false, Nat.reduceEqDiff, Nat.reduceAdd, Nat.reduceMul, Int.reduceLT, Int.reduceLE, Int.reduceEq, Int.reduceNeg, Int.reduceAdd, Int.reduceToNat, Int.toNat_natCast, Int.natCast_nonneg, List.length_cons, List.length_nil, Int.reduceNe, ne_eq, not_false_eq_true, not_true_eq_false, Nat.reduceSub, Option.map_some, decide_not, e_cellsI, e_cellsS, e_cellsB, e_cellsL, e_cellsE, e_cellsA, List.all_cons, List.all_nil, beq_self_eq_true, Nat.mul_one, Int.reducePow, Int.reduceMul, List.replicate_zero, List.nil_append, Nat.zero_add, e_sh_u8_1, e_sh_u8_3, e_sh_u8_4, e_sh_u8_7, e_sh_u32_1, e_sh_u32_3, e_sh_u32_4, e_sh_u32_7, e_sh_u32_8, e_sh_u32_16, e_sh_u32_24, e_sh_u32_31, e_sh_u64_1, e_sh_u64_3, e_sh_u64_4, e_sh_u64_7, e_sh_u64_8, e_sh_u64_16, e_sh_u64_24, e_sh_u64_31, e_sh_u64_32, e_sh_u64_40, e_sh_u64_48, e_sh_u64_56, e_sh_u64_60, e_sh_u64_63, e_sh_i64_1, e_sh_i64_3, e_sh_i64_4, e_sh_i64_7, e_sh_i64_8, e_sh_i64_16, e_sh_i64_24, e_sh_i64_31, e_sh_i64_32, e_sh_i64_40, e_sh_i64_48, e_sh_i64_56, e_sh_i64_60, e_sh_i64_63, e_keepU, s_call0, l_quote_Runes_1, r_st, hz, List.getElem?_cons_zero]
        rw [X_loop, hr]
        have := ih (n + 1) (pos + k) m' (by omega) (by omega) (by omega) hm
        rw [show n + (m' + 1) = n + 1 + m' by omega]
        exact this
    · obtain rfl : pos = b.length := by omega
      rw [List.drop_length, runes_nil, Option.some.injEq] at hm
      subst hm
      refine loop_exit ?_ (by simp)
      simp -implicitDefEqProofs (maxSteps := 1000000) (disch := omega) only [↓Int.reduceLT, ↓Int.reduceLE, ↓Int.reduceEq, ↓Nat.reduceEqDiff, lt_T, lt_F, le_T, le_F, eq_T, eq_F, nlt_T, nlt_F, nle_T, nle_F, up_add, up_addL, up_mulL, up_1add, up_2add, up_sub, up_sub1, wrap_i64', wrap_i32', wrap_u64', wrap_u32', wrap_u8', Int.cast_ofNat_Int, s_call1, s_call2, s_call3, s_call4, s_call5, List.contains_cons, List.contains_nil, Nat.reduceBEq, Bool.or_true, Bool.or_false, Bool.true_or, Bool.false_or, ↓reduceIte, step_guard, e_guardW, e_guardWU, X_seq, x_reg, X_block, x_cond, X_ret, X_exit, X_skip, X_goto, X_label, condOf_eq, andThen_norm, andThen_exit, andThen_goto, andThen_ret, andThen_none, andThen_ite, outOf_norm, outOf_exit, outOf_goto, outOf_ret, outOf_none, outOf_ite, regEnd_ite, runL_ite, layD_ite, step_none, bound_none, bound_some, upd_at, get_nil, get_cons, St.toRS, restrict, keepEnv_nil, keepEnv_cons, keepBx_nil, keepBx_cons, initEnv, finO_ite, plainArgs, List.map_cons, List.map_nil, s_mov, s_pick, s_zbox, s_box, s_build, s_mk, s_load, s_store, s_bin, s_eqs, s_neg, s_not, s_cint, s_cstr, s_faddr, s_iaddr, s_aaddr, s_sidx, s_aidx, s_app, s_len, s_max2, s_make, s_slcs, s_slc, s_rng, s_nxt, s_ext, e_runL0, e_runL, e_runLn, e_layD, e_layV, e_put, e_put0, e_movOwn, e_movOwnC, e_movRead, e_movD, e_movL, e_movC, e_movT, e_pick, e_bin, e_binI, e_binS, e_binB, e_binE, e_add, e_sub, e_mul, e_quo, e_rem, e_and, e_or, e_xor, e_andNot, e_shl, e_shr, e_eql, e_neq, e_lss, e_leq, e_gtr, e_geq, e_sadd, e_seql, e_sneq, e_slss, e_sgtr, e_beql, e_bneq, e_eeql, e_eneq, e_eqs, e_neg, e_not, e_cint, e_cref, e_iaddr, e_byte, e_sidx, e_aidx, e_len, e_lenS, e_max2, e_make, e_slcs, e_slc, e_lenOfS, e_lenOf, e_nat, e_rng, e_ext, e_loadC, e_loadL, e_subB, e_store, e_storeB, e_faddrL, e_faddrC, e_aaddrL, e_aaddrC, e_zbox, e_zboxB, e_box, e_build, e_mk, e_app, e_appC, e_appS, e_appSC, e_nxt, e_dArgs, e_call, e_evT, e_evC, e_evG, e_crefO, e_evD, e_readD, e_readO, e_evI, e_intO, e_evDs, e_evDs0, e_consO, e_regEnd, e_condX, e_boolOf, e_keepD, e_keepO, e_keepC, e_keepT, e_keepI, e_keepL, e_keepN, e_keepB, e_keepBn, e_finN, e_finR, e_res1, e_resD, e_resO, e_dV, e_res1c, e_res2, e_tupO, e_resDs, e_resDs0, e_resS, e_resC, e_cellO, e_wholeI, e_wholeS, e_wholeB, e_wholeL, e_wholeA, reduceCtorEq, Bool.not_false, Bool.not_true, Bool.and_self, Bool.true_and, Bool.false_and, Option.isNone_none, Option.isNone_some, Option.isSome_some, Option.isSome_none, or_true, true_or, or_false, false_or, and_true, true_and, eq_self, decide_true, decide_false, Bool.false_eq_true, Bool.true_eq_false, decide_eq_true_eq, ite_true, ite_false, Nat.reduceEqDiff, Nat.reduceAdd, Nat.reduceMul, Int.reduceLT, Int.reduceLE, Int.reduceEq, Int.reduceNeg, Int.reduceAdd, Int.reduceToNat, Int.toNat_natCast, Int.natCast_nonneg, List.length_cons, List.length_nil, Int.reduceNe, ne_eq, not_false_eq_true, not_true_eq_false, Nat.reduceSub, Option.map_some, decide_not, e_cellsI, e_cellsS, e_cellsB, e_cellsL, e_cellsE, e_cellsA, List.all_cons, List.all_nil, beq_self_eq_true, Nat.mul_one, Int.reducePow, Int.reduceMul, List.replicate_zero, List.nil_append, Nat.zero_add, e_sh_u8_1, e_sh_u8_3, e_sh_u8_4, e_sh_u8_7, e_sh_u32_1, e_sh_u32_3, e_sh_u32_4, e_sh_u32_7, e_sh_u32_8, e_sh_u32_16, e_sh_u32_24, e_sh_u32_31, e_sh_u64_1, e_sh_u64_3, e_sh_u64_4, e_sh_u64_7, e_sh_u64_8, e_sh_u64_16, e_sh_u64_24, e_sh_u64_31, e_sh_u64_32, e_sh_u64_40, e_sh_u64_48, e_sh_u64_56, e_sh_u64_60, e_sh_u64_63, e_sh_i64_1, e_sh_i64_3, e_sh_i64_4, e_sh_i64_7, e_sh_i64_8, e_sh_i64_16, e_sh_i64_24, e_sh_i64_31, e_sh_i64_32, e_sh_i64_40, e_sh_i64_48, e_sh_i64_56, e_sh_i64_60, e_sh_i64_63, e_keepU, s_call0, l_quote_Runes_1, r_st, Nat.add_zero, List.getElem?_cons_zero]

theorem runes_spec (b : List UInt8) (hm : b.length ≤ 140737488355328) : C M 13 [.d (.slice 1 (bytesD b))] = some (.d (.int .i64 ((runes b).getD 0 : Nat))) := by
  rw [c_fn (sf := f_quote_Runes) rfl rfl ⟨rfl, rfl⟩]
  have hv := valid_spec b hm
  cases hs : runes b with
  | none =>
    simp only [hs, Option.isSome_none] at hv
    simp -implicitDefEqProofs (maxSteps := 1000000) (disch := omega) only [↓Int.reduceLT, ↓Int.reduceLE, ↓Int.reduceEq, ↓Nat.reduceEqDiff, lt_T, lt_F, le_T, le_F, eq_T, eq_F, nlt_T, nlt_F, nle_T, nle_F, up_add, up_addL, up_mulL, up_1add, up_2add, up_sub, up_sub1, wrap_i64', wrap_i32', wrap_u64', wrap_u32', wrap_u8', Int.cast_ofNat_Int, s_call1, s_call2, s_call3, s_call4, s_call5, List.contains_cons, List.contains_nil, Nat.reduceBEq, Bool.or_true, Bool.or_false, Bool.true_or, Bool.false_or, ↓reduceIte, step_guard, e_guardW, e_guardWU, X_seq, x_reg, X_block, x_cond, X_ret, X_exit, X_skip, X_goto, X_label, condOf_eq, andThen_norm, andThen_exit, andThen_goto, andThen_ret, andThen_none, andThen_ite, outOf_norm, outOf_exit, outOf_goto, outOf_ret, outOf_none, outOf_ite, regEnd_ite, runL_ite, layD_ite, step_none, bound_none, bound_some, upd_at, get_nil, get_cons, St.toRS, restrict, keepEnv_nil, keepEnv_cons, keepBx_nil, keepBx_cons, initEnv, finO_ite, plainArgs, List.map_cons, List.map_nil, s_mov, s_pick, s_zbox, s_box, s_build, s_mk, s_load, s_store, s_bin, s_eqs, s_neg, s_not, s_cint, s_cstr, s_faddr, s_iaddr, s_aaddr, s_sidx, s_aidx, s_app, s_len, s_max2, s_make, s_slcs, s_slc, s_rng, s_nxt, s_ext, e_runL0, e_runL, e_runLn, e_layD, e_layV, e_put, e_put0, e_movOwn, e_movOwnC, e_movRead, e_movD, e_movL, e_movC, e_movT, e_pick, e_bin, e_binI, e_binS, e_binB, e_binE, e_add, e_sub, e_mul, e_quo, e_rem, e_and, e_or, e_xor, e_andNot, e_shl, e_shr, e_eql, e_neq, e_lss, e_leq, e_gtr, e_geq, e_sadd, e_seql, e_sneq, e_slss, e_sgtr, e_beql, e_bneq, e_eeql, e_eneq, e_eqs, e_neg, e_not, e_cint, e_cref, e_iaddr, e_byte, e_sidx, e_aidx, e_len, e_lenS, e_max2, e_make, e_slcs, e_slc, e_lenOfS, e_lenOf, e_nat, e_rng, e_ext, e_loadC, e_loadL, e_subB, e_store, e_storeB, e_faddrL, e_faddrC, e_aaddrL, e_aaddrC, e_zbox, e_zboxB, e_box, e_build, e_mk, e_app, e_appC, e_appS, e_appSC, e_nxt, e_dArgs, e_call, e_evT, e_evC, e_evG, e_crefO, e_evD, e_readD, e_readO, e_evI, e_intO, e_evDs, e_evDs0, e_consO, e_regEnd, e_condX, e_boolOf, e_keepD, e_keepO, e_keepC, e_keepT, e_keepI, e_keepL, e_keepN, e_keepB, e_keepBn, e_finN, e_finR, e_res1, e_resD, e_resO, e_dV, e_res1c, e_res2, e_tupO, e_resDs, e_resDs0, e_resS, e_resC, e_cellO, e_wholeI, e_wholeS, e_wholeB, e_wholeL, e_wholeA, reduceCtorEq, Bool.not_false, Bool.not_true, Bool.and_self, Bool.true_and, Bool.false_and, Option.isNone_none, Option.isNone_some, Option.isSome_some, Option.isSome_none, or_true, true_or, or_false, false_or, and_true, true_and, eq_self, decide_true, decide_false, Bool.false_eq_true, Bool.true_eq_false, decide_eq_true_eq, ite_true, ite_false, Nat.reduceEqDiff, Nat.reduceAdd, Nat.reduceMul, Int.reduceLT, Int.reduceLE, Int.reduceEq, Int.reduceNeg, Int.reduceAdd, Int.reduceToNat, Int.toNat_natCast, Int.natCast_nonneg, List.length_cons, List.length_nil, Int.reduceNe, ne_eq, not_false_eq_true, not_true_eq_false, Nat.reduceSub, Option.map_some, decide_not, e_cellsI, e_cellsS, e_cellsB, e_cellsL, e_cellsE, e_cellsA, List.all_cons, List.all_nil, beq_self_eq_true, Nat.mul_one, Int.reducePow, Int.reduceMul, List.replicate_zero, List.nil_append, Nat.zero_add, e_sh_u8_1, e_sh_u8_3, e_sh_u8_4, e_sh_u8_7, e_sh_u32_1, e_sh_u32_3, e_sh_u32_4, e_sh_u32_7, e_sh_u32_8, e_sh_u32_16, e_sh_u32_24, e_sh_u32_31, e_sh_u64_1, e_sh_u64_3, e_sh_u64_4, e_sh_u64_7, e_sh_u64_8, e_sh_u64_16, e_sh_u64_24, e_sh_u64_31, e_sh_u64_32, e_sh_u64_40, e_sh_u64_48, e_sh_u64_56, e_sh_u64_60, e_sh_u64_63, e_sh_i64_1, e_sh_i64_3, e_sh_i64_4, e_sh_i64_7, e_sh_i64_8, e_sh_i64_16, e_sh_i64_24, e_sh_i64_31, e_sh_i64_32, e_sh_i64_40, e_sh_i64_48, e_sh_i64_56, e_sh_i64_60, e_sh_i64_63, e_keepU, s_call0, f_quote_Runes, hv, Option.getD_none]
  | some m =>
    simp only [hs, Option.isSome_some] at hv
    have hl := r_loop b hm b.length 0 0 m (by omega) (by omega) (by omega) (by simpa using hs)
    simp only [r_st, Int.cast_ofNat_Int, Nat.zero_add] at hl
    simp -implicitDefEqProofs (maxSteps := 1000000) (disch := omega) only [↓Int.reduceLT, ↓Int.reduceLE, ↓Int.reduceEq, ↓Nat.reduceEqDiff, lt_T, lt_F, le_T, le_F, eq_T, eq_F, nlt_T, nlt_F, nle_T, nle_F, up_add, up_addL, up_mulL, up_1add, up_2add, up_sub, up_sub1, wrap_i64', wrap_i32', wrap_u64', wrap_u32', wrap_u8', Int.cast_ofNat_Int, s_call1, s_call2, s_call3, s_call4, s_call5, List.contains_cons, List.contains_nil, Nat.reduceBEq, Bool.or_true, Bool.or_false, Bool.true_or, Bool.false_or, ↓reduceIte, step_guard, e_guardW, e_guardWU, X_seq, x_reg, X_block, x_cond, X_ret, X_exit, X_skip, X_goto, X_label, condOf_eq, andThen_norm, andThen_exit, andThen_goto, andThen_ret, andThen_none, andThen_ite, outOf_norm, outOf_exit, outOf_goto, outOf_ret, outOf_none, outOf_ite, regEnd_ite, runL_ite, layD_ite, step_none, bound_none, bound_some, upd_at, get_nil, get_cons, St.toRS, restrict, keepEnv_nil, keepEnv_cons, keepBx_nil, keepBx_cons, initEnv, finO_ite, plainArgs, List.map_cons, List.map_nil, s_mov, s_pick, s_zbox, s_box, s_build, s_mk, s_load, s_store, s_bin, s_eqs, s_neg, s_not, s_cint, s_cstr, s_faddr, s_iaddr, s_aaddr, s_sidx, s_aidx, s_app, s_len, s_max2, s_make, s_slcs, s_slc, s_rng, s_nxt, s_ext, e_runL0, e_runL, e_runLn, e_layD, e_layV, e_put, e_put0, e_movOwn, e_movOwnC, e_movRead, e_movD, e_movL, e_movC, e_movT, e_pick, e_bin, e_binI, e_binS, e_binB, e_binE, e_add, e_sub, e_mul, e_quo, e_rem, e_and, e_or, e_xor, e_andNot, e_shl, e_shr, e_eql, e_neq, e_lss, e_leq, e_gtr, e_geq, e_sadd, e_seql, e_sneq, e_slss, e_sgtr, e_beql, e_bneq, e_eeql, e_eneq, e_eqs, e_neg, e_not, e_cint, e_cref, e_iaddr, e_byte, e_sidx, e_aidx, e_len, e_lenS, e_max2, e_make, e_slcs, e_slc, e_lenOfS, e_lenOf, e_nat, e_rng, e_ext, e_loadC, e_loadL, e_subB, e_store, e_storeB, e_faddrL, e_faddrC, e_aaddrL, e_aaddrC, e_zbox, e_zboxB, e_box, e_build, e_mk, e_app, e_appC, e_appS, e_appSC, e_nxt, e_dArgs, e_call, e_evT, e_evC, e_evG, e_crefO, e_evD, e_readD, e_readO, e_evI, e_intO, e_evDs, e_evDs0, e_consO, e_regEnd, e_condX, e_boolOf, e_keepD, e_keepO, e_keepC, e_keepT, e_keepI, e_keepL, e_keepN, e_keepB, e_keepBn, e_finN, e_finR, e_res1, e_resD, e_resO, e_dV, e_res1c, e_res2, e_tupO, e_resDs, e_resDs0, e_resS, e_resC, e_cellO, e_wholeI, e_wholeS, e_wholeB, e_wholeL, e_wholeA, reduceCtorEq, Bool.not_false, Bool.not_true, Bool.and_self, Bool.true_and, Bool.false_and, Option.isNone_none, Option.isNone_some, Option.isSome_some, Option.isSome_none, or_true, true_or, or_false, false_or, and_true, true_and, eq_self, decide_true, decide_false, Bool.false_eq_true, Bool.true_eq_false, decide_eq_true_eq, ite_true, ite_false, Nat.reduceEqDiff, Nat.reduceAdd, Nat.reduceMul, Int.reduceLT, Int.reduceLE, Int.reduceEq, Int.reduceNeg, Int.reduceAdd, Int.reduceToNat, Int.toNat_natCast, Int.natCast_nonneg, List.length_cons, List.length_nil, Int.reduceNe, ne_eq, not_false_eq_true, not_true_eq_false, Nat.reduceSub, Option.map_some, decide_not, e_cellsI, e_cellsS, e_cellsB, e_cellsL, e_cellsE, e_cellsA, List.all_cons, List.all_nil, beq_self_eq_true, Nat.mul_one, Int.reducePow, Int.reduceMul, List.replicate_zero, List.nil_append, Nat.zero_add, e_sh_u8_1, e_sh_u8_3, e_sh_u8_4, e_sh_u8_7, e_sh_u32_1, e_sh_u32_3, e_sh_u32_4, e_sh_u32_7, e_sh_u32_8, e_sh_u32_16, e_sh_u32_24, e_sh_u32_31, e_sh_u64_1, e_sh_u64_3, e_sh_u64_4, e_sh_u64_7, e_sh_u64_8, e_sh_u64_16, e_sh_u64_24, e_sh_u64_31, e_sh_u64_32, e_sh_u64_40, e_sh_u64_48, e_sh_u64_56, e_sh_u64_60, e_sh_u64_63, e_sh_i64_1, e_sh_i64_3, e_sh_i64_4, e_sh_i64_7, e_sh_i64_8, e_sh_i64_16, e_sh_i64_24, e_sh_i64_31, e_sh_i64_32, e_sh_i64_40, e_sh_i64_48, e_sh_i64_56, e_sh_i64_60, e_sh_i64_63, e_keepU, s_call0, f_quote_Runes, hv, Option.getD_some, e_cstrB, hl]
end Go.Proofs.YtladdhfkmnhmfaaDoor
