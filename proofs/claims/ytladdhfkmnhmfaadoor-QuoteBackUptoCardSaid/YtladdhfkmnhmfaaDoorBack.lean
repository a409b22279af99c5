/-
  The law QuoteBack, over data: quoted bytes come back.
-/
import Derived.Test.YtladdhfkmnhmfaaDoorRunes
import Derived.Test.YtladdhfkmnhmfaaDoorUnq2
set_option linter.unusedVariables false
set_option linter.unusedSimpArgs false
set_option maxRecDepth 100000
set_option maxHeartbeats 8000000
namespace Go.Proofs.YtladdhfkmnhmfaaDoor
open Go.Vi

/-! ### Back -/
theorem hexD_back : ∀ n : Fin 16, hexI (hexD n.val).toNat = n.val := by decide +kernel
theorem hexD_printed : ∀ n : Fin 16, 32 ≤ (hexD n.val).toNat ∧ (hexD n.val).toNat ≤ 126 := by decide +kernel

theorem step_back (c : UInt8) (t : List UInt8) : uqStep (qByte c ++ t) = some (c, (qByte c).length) := by
  have hc := c.toNat_lt
  unfold qByte
  by_cases h1 : c.toNat = 34 ∨ c.toNat = 92
  · simp only [h1, if_true, List.cons_append, List.nil_append, List.length_cons, List.length_nil]
    simp [uqStep, h1]
  simp only [h1, if_false]
  by_cases h2 : c.toNat = 10
  · simp only [h2, if_true, List.cons_append, List.nil_append, List.length_cons, List.length_nil]
    have : c = 10 := by rw [show (10 : UInt8) = UInt8.ofNat 10 from rfl, u8_eq _ _ (by omega)]; exact h2
    simp [uqStep, this]
  simp only [h2, if_false]
  by_cases h3 : c.toNat = 9
  · simp only [h3, if_true, List.cons_append, List.nil_append, List.length_cons, List.length_nil]
    have : c = 9 := by rw [show (9 : UInt8) = UInt8.ofNat 9 from rfl, u8_eq _ _ (by omega)]; exact h3
    simp [uqStep, this]
  simp only [h3, if_false]
  by_cases h4 : c.toNat = 13
  · simp only [h4, if_true, List.cons_append, List.nil_append, List.length_cons, List.length_nil]
    have : c = 13 := by rw [show (13 : UInt8) = UInt8.ofNat 13 from rfl, u8_eq _ _ (by omega)]; exact h4
    simp [uqStep, this]
  simp only [h4, if_false]
  by_cases h5 : c.toNat < 32 ∨ 126 < c.toNat
  · simp only [h5, if_true, List.cons_append, List.nil_append, List.length_cons, List.length_nil]
    have x1 := hexD_back ⟨c.toNat / 16, by omega⟩
    have x2 := hexD_back ⟨c.toNat % 16, by omega⟩
    simp only at x1 x2
    have : (UInt8.ofNat ((c.toNat / 16 : Nat) * 16 + (c.toNat % 16 : Nat) : Int).toNat) = c := by
      have : ((c.toNat / 16 : Nat) * 16 + (c.toNat % 16 : Nat) : Int).toNat = c.toNat := by omega
      rw [this]; simp
    simp only [uqStep, x1, x2]
    rw [if_neg (by decide), if_neg (by decide), if_neg (by decide), if_neg (by decide), if_neg (by decide), if_neg (by decide), if_pos (by decide), if_neg (by omega), this]
  · simp only [h5, if_false, List.cons_append, List.nil_append, List.length_cons, List.length_nil]
    have g1 : ¬ (c.toNat = 34 ∨ c.toNat = 10) := by omega
    have g2 : c.toNat ≠ 92 := by omega
    simp [uqStep, g1, g2]

theorem unqF_back : ∀ (a : List UInt8) (n : Nat), (a.flatMap qByte).length ≤ n → unqF n (a.flatMap qByte) = some a
  | [], n, _ => by cases n <;> rfl
  | c :: a, n, h => by
    have hs := step_back c (a.flatMap qByte)
    simp only [List.flatMap_cons, List.length_append] at h ⊢
    have hpos : 1 ≤ (qByte c).length := by
      have := uqStep_len hs; omega
    match n, h with
    | n + 1, h =>
      match hq : qByte c ++ a.flatMap qByte, hs with
      | x :: r, hs =>
        simp only [unqF, hs]
        rw [← hq, List.drop_left, unqF_back a n (by omega)]
        rfl
    | 0, h => omega

theorem unquote_back (a : List UInt8) (h : (quoteL a).length ≤ 65536) : unquoteL (quoteL a) = (a, 0) := by
  have hl : (quoteL a).length = (a.flatMap qByte).length + 2 := by simp [quoteL]
  have hu : unq (((quoteL a).take ((quoteL a).length - 1)).drop 1) = some a := by
    have e : ((quoteL a).take ((quoteL a).length - 1)).drop 1 = a.flatMap qByte := by
      rw [hl, quoteL]
      simp
    rw [e]
    exact unqF_back a _ (Nat.le_refl _)
  have g0 : (quoteL a)[0]? = some 34 := by simp [quoteL]
  have gl : (quoteL a)[(quoteL a).length - 1]? = some 34 := by
    rw [hl, quoteL]
    rw [show (a.flatMap qByte).length + 2 - 1 = (a.flatMap qByte).length + 1 by omega, List.getElem?_cons_succ]
    simp
  simp only [unquoteL, show ¬ 65536 < (quoteL a).length by omega, show ¬ (quoteL a).length < 2 by omega, g0, gl, hu, if_false, ne_eq, not_true_eq_false, or_self]

theorem qByte_printed (c x : UInt8) (hx : x ∈ qByte c) : 32 ≤ x.toNat ∧ x.toNat ≤ 126 := by
  have hc := c.toNat_lt
  unfold qByte at hx
  split at hx
  case isTrue h =>
    simp only [List.mem_cons, List.mem_nil_iff, or_false] at hx
    rcases hx with rfl | rfl
    · decide
    · omega
  split at hx
  · simp only [List.mem_cons, List.mem_nil_iff, or_false] at hx
    rcases hx with rfl | rfl <;> decide
  split at hx
  · simp only [List.mem_cons, List.mem_nil_iff, or_false] at hx
    rcases hx with rfl | rfl <;> decide
  split at hx
  · simp only [List.mem_cons, List.mem_nil_iff, or_false] at hx
    rcases hx with rfl | rfl <;> decide
  split at hx
  · simp only [List.mem_cons, List.mem_nil_iff, or_false] at hx
    rcases hx with rfl | rfl | rfl | rfl
    · decide
    · decide
    · exact hexD_printed ⟨c.toNat / 16, by omega⟩
    · exact hexD_printed ⟨c.toNat % 16, by omega⟩
  · simp only [List.mem_cons, List.mem_nil_iff, or_false] at hx
    subst hx
    omega
theorem quoteL_printed (a : List UInt8) (x : UInt8) (hx : x ∈ quoteL a) : 32 ≤ x.toNat ∧ x.toNat ≤ 126 := by
  simp only [quoteL, List.mem_cons, List.mem_append, List.mem_flatMap, List.mem_nil_iff, or_false] at hx
  rcases hx with rfl | ⟨c, _, hc⟩ | rfl
  · decide
  · exact qByte_printed c x hc
  · decide

/-! ### One behind the other -/
theorem tailV_more {size : Nat} {v low : Int} {r t : List UInt8} {k : Nat} (h : tailV size v low r = some k) : tailV size v low (r ++ t) = some k := by
  obtain ⟨-, hl⟩ := tailV_some h
  rw [← h]
  have e : (r ++ t).take (size - 1) = r.take (size - 1) := by rw [List.take_append_of_le_length (by omega)]
  simp only [tailV, e, List.length_append, show ¬ r.length + t.length + 1 < size by omega, show ¬ r.length + 1 < size by omega, if_false]
theorem chr_more {c : UInt8} {r t : List UInt8} {k : Nat} (h : chr (c :: r) = some k) : chr (c :: (r ++ t)) = some k := by
  simp only [chr] at h ⊢
  split
  case isTrue g => rwa [if_pos g] at h
  case isFalse g =>
    rw [if_neg g] at h
    split
    case isTrue g => rwa [if_pos g] at h
    case isFalse g =>
      rw [if_neg g] at h
      split
      case isTrue g => rw [if_pos g] at h; exact tailV_more h
      case isFalse g =>
        rw [if_neg g] at h
        split
        case isTrue g => rw [if_pos g] at h; exact tailV_more h
        case isFalse g =>
          rw [if_neg g] at h
          split
          case isTrue g => rw [if_pos g] at h; exact tailV_more h
          case isFalse g => rw [if_neg g] at h; cases h
theorem runes_append : ∀ (n : Nat) (a b : List UInt8) (x y : Nat), a.length ≤ n → runes a = some x → runes b = some y → runes (a ++ b) = some (x + y) := by
  intro n
  induction n with
  | zero =>
    intro a b x y hn ha hb
    obtain rfl : a = [] := List.eq_nil_of_length_eq_zero (by omega)
    simp only [runes_nil, Option.some.injEq] at ha
    subst ha
    simpa using hb
  | succ n ih =>
    intro a b x y hn ha hb
    cases a with
    | nil => simp only [runes_nil, Option.some.injEq] at ha; subst ha; simpa using hb
    | cons c r =>
      rw [runes_cons] at ha
      cases hk : chr (c :: r) with
      | none => rw [hk] at ha; cases ha
      | some k =>
        rw [hk] at ha
        obtain ⟨k1, k4, kl⟩ := chr_pos hk
        simp only [Option.map_eq_some_iff] at ha
        obtain ⟨x', hx, rfl⟩ := ha
        rw [List.cons_append, runes_cons, chr_more hk]
        simp only []
        simp only [List.length_cons] at hn
        rw [← List.cons_append, List.drop_append_of_le_length (by simp; omega), ih _ b x' y (by simp; omega) hx hb]
        simp; omega

/-! ### The law -/
def p_st (a b s : List UInt8) (i : Nat) : St := { env := [(0, .d (.slice 1 (bytesD a))), (1, .d (.slice 1 (bytesD b))), (5, .d (.str s)), (6, .d (.int .i64 i))], bx := [] }
theorem p_loop (a b s : List UInt8) (hs : s.length ≤ 140737488355328) (hp : ∀ x ∈ s, 32 ≤ x.toNat ∧ x.toNat ≤ 126) :
    X M (.loop l_law2_QuoteBack_9) (p_st a b s 0) = some (.exit 0, { env := [(0, .d (.slice 1 (bytesD a))), (1, .d (.slice 1 (bytesD b))), (5, .d (.str s)), (6, .d (.int .i64 s.length)), (17, .d (.bool false))], bx := [] }) := by
  refine loop_to (M := M) (b := l_law2_QuoteBack_9) (inv := fun i => p_st a b s i) (n := s.length) (fun i hi => ?_) ?_ 0 (by omega)
  · have hg : s[i]? = some s[i] := by simp [hi]
    obtain ⟨p1, p2⟩ := hp s[i] (by simp)
    generalize s[i] = c at hg p1 p2
    simp -implicitDefEqProofs (maxSteps := 1000000) (disch := omega) only [↓Int.reduceLT, ↓Int.reduceLE, ↓Int.reduceEq, ↓Nat.reduceEqDiff, lt_T, lt_F, le_T, le_F, eq_T, eq_F, nlt_T, nlt_F, nle_T, nle_F, up_add, up_addL, up_mulL, up_1add, up_2add, up_sub, up_sub1, wrap_i64', wrap_i32', wrap_u64', wrap_u32', wrap_u8', Int.cast_ofNat_Int, s_call1, s_call2, s_call3, s_call4, s_call5, List.contains_cons, List.contains_nil, Nat.reduceBEq, Bool.or_true, Bool.or_false, Bool.true_or, Bool.false_or, ↓reduceIte, step_guard, e_guardW, e_guardWU, X_seq, x_reg, X_block, x_cond, X_ret, X_exit, X_skip, X_goto, X_label, condOf_eq, andThen_norm, andThen_exit, andThen_goto, andThen_ret, andThen_none, andThen_ite, outOf_norm, outOf_exit, outOf_goto, outOf_ret, outOf_none, outOf_ite, regEnd_ite, runL_ite, layD_ite, step_none, bound_none, bound_some, upd_at, get_nil, get_cons, St.toRS, restrict, keepEnv_nil, keepEnv_cons, keepBx_nil, keepBx_cons, initEnv, finO_ite, plainArgs, List.map_cons, List.map_nil, s_mov, s_pick, s_zbox, s_box, s_build, s_mk, s_load, s_store, s_bin, s_eqs, s_neg, s_not, s_cint, s_cstr, s_faddr, s_iaddr, s_aaddr, s_sidx, s_aidx, s_app, s_len, s_max2, s_make, s_slcs, s_slc, s_rng, s_nxt, s_ext, e_runL0, e_runL, e_runLn, e_layD, e_layV, e_put, e_put0, e_movOwn, e_movOwnC, e_movRead, e_movD, e_movL, e_movC, e_movT, e_pick, e_bin, e_binI, e_binS, e_binB, e_binE, e_add, e_sub, e_mul, e_quo, e_rem, e_and, e_or, e_xor, e_andNot, e_shl, e_shr, e_eql, e_neq, e_lss, e_leq, e_gtr, e_geq, e_sadd, e_seql, e_sneq, e_slss, e_sgtr, e_beql, e_bneq, e_eeql, e_eneq, e_eqs, e_neg, e_not, e_cint, e_cref, e_iaddr, e_byte, e_sidx, e_aidx, e_len, e_lenS, e_max2, e_make, e_slcs, e_slc, e_lenOfS, e_lenOf, e_nat, e_rng, e_ext, e_loadC, e_loadL, e_subB, e_store, e_storeB, e_faddrL, e_faddrC, e_aaddrL, e_aaddrC, e_zbox, e_zboxB, e_box, e_build, e_mk, e_app, e_appC, e_appS, e_appSC, e_nxt, e_dArgs, e_call, e_evT, e_evC, e_evG, e_crefO, e_evD, e_readD, e_readO, e_evI, e_intO, e_evDs, e_evDs0, e_consO, e_regEnd, e_condX, e_boolOf, e_keepD, e_keepO, e_keepC, e_keepT, e_keepI, e_keepL, e_keepN, e_keepB, e_keepBn, e_finN, e_finR, e_res1, e_resD, e_resO, e_dV, e_res1c, e_res2, e_tupO, e_resDs, e_resDs0, e_resS, e_resC, e_cellO, e_wholeI, e_wholeS, e_wholeB, e_wholeL, e_wholeA, reduceCtorEq, Bool.not_false, Bool.not_true, Bool.and_self, Bool.true_and, Bool.false_and, Option.isNone_none, Option.isNone_some, Option.isSome_some, Option.isSome_none, or_true, true_or, or_false, false_or, and_true, true_and, eq_self, decide_true, decide_false, Bool.false_eq_true, Bool.true_eq_false, decide_eq_true_eq, ite_true, ite_false, Nat.reduceEqDiff, Nat.reduceAdd, Nat.reduceMul, Int.reduceLT, Int.reduceLE, Int.reduceEq, Int.reduceNeg, Int.reduceAdd, Int.reduceToNat, Int.toNat_natCast, Int.natCast_nonneg, List.length_cons, List.length_nil, Int.reduceNe, ne_eq, not_false_eq_true, not_true_eq_false, Nat.reduceSub, Option.map_some, decide_not, e_cellsI, e_cellsS, e_cellsB, e_cellsL, e_cellsE, e_cellsA, List.all_cons, List.all_nil, beq_self_eq_true, Nat.mul_one, Int.reducePow, Int.reduceMul, List.replicate_zero, List.nil_append, Nat.zero_add, e_sh_u8_1, e_sh_u8_3, e_sh_u8_4, e_sh_u8_7, e_sh_u32_1, e_sh_u32_3, e_sh_u32_4, e_sh_u32_7, e_sh_u32_8, e_sh_u32_16, e_sh_u32_24, e_sh_u32_31, e_sh_u64_1, e_sh_u64_3, e_sh_u64_4, e_sh_u64_7, e_sh_u64_8, e_sh_u64_16, e_sh_u64_24, e_sh_u64_31, e_sh_u64_32, e_sh_u64_40, e_sh_u64_48, e_sh_u64_56, e_sh_u64_60, e_sh_u64_63, e_sh_i64_1, e_sh_i64_3, e_sh_i64_4, e_sh_i64_7, e_sh_i64_8, e_sh_i64_16, e_sh_i64_24, e_sh_i64_31, e_sh_i64_32, e_sh_i64_40, e_sh_i64_48, e_sh_i64_56, e_sh_i64_60, e_sh_i64_63, e_keepU, s_call0, l_law2_QuoteBack_9, p_st, hg]
  · refine loop_exit ?_ (by simp)
    simp -implicitDefEqProofs (maxSteps := 1000000) (disch := omega) only [↓Int.reduceLT, ↓Int.reduceLE, ↓Int.reduceEq, ↓Nat.reduceEqDiff, lt_T, lt_F, le_T, le_F, eq_T, eq_F, nlt_T, nlt_F, nle_T, nle_F, up_add, up_addL, up_mulL, up_1add, up_2add, up_sub, up_sub1, wrap_i64', wrap_i32', wrap_u64', wrap_u32', wrap_u8', Int.cast_ofNat_Int, s_call1, s_call2, s_call3, s_call4, s_call5, List.contains_cons, List.contains_nil, Nat.reduceBEq, Bool.or_true, Bool.or_false, Bool.true_or, Bool.false_or, ↓reduceIte, step_guard, e_guardW, e_guardWU, X_seq, x_reg, X_block, x_cond, X_ret, X_exit, X_skip, X_goto, X_label, condOf_eq, andThen_norm, andThen_exit, andThen_goto, andThen_ret, andThen_none, andThen_ite, outOf_norm, outOf_exit, outOf_goto, outOf_ret, outOf_none, outOf_ite, regEnd_ite, runL_ite, layD_ite, step_none, bound_none, bound_some, upd_at, get_nil, get_cons, St.toRS, restrict, keepEnv_nil, keepEnv_cons, keepBx_nil, keepBx_cons, initEnv, finO_ite, plainArgs, List.map_cons, List.map_nil, s_mov, s_pick, s_zbox, s_box, s_build, s_mk, s_load, s_store, s_bin, s_eqs, s_neg, s_not, s_cint, s_cstr, s_faddr, s_iaddr, s_aaddr, s_sidx, s_aidx, s_app, s_len, s_max2, s_make, s_slcs, s_slc, s_rng, s_nxt, s_ext, e_runL0, e_runL, e_runLn, e_layD, e_layV, e_put, e_put0, e_movOwn, e_movOwnC, e_movRead, e_movD, e_movL, e_movC, e_movT, e_pick, e_bin, e_binI, e_binS, e_binB, e_binE, e_add, e_sub, e_mul, e_quo, e_rem, e_and, e_or, e_xor, e_andNot, e_shl, e_shr, e_eql, e_neq, e_lss, e_leq, e_gtr, e_geq, e_sadd, e_seql, e_sneq, e_slss, e_sgtr, e_beql, e_bneq, e_eeql, e_eneq, e_eqs, e_neg, e_not, e_cint, e_cref, e_iaddr, e_byte, e_sidx, e_aidx, e_len, e_lenS, e_max2, e_make, e_slcs, e_slc, e_lenOfS, e_lenOf, e_nat, e_rng, e_ext, e_loadC, e_loadL, e_subB, e_store, e_storeB, e_faddrL, e_faddrC, e_aaddrL, e_aaddrC, e_zbox, e_zboxB, e_box, e_build, e_mk, e_app, e_appC, e_appS, e_appSC, e_nxt, e_dArgs, e_call, e_evT, e_evC, e_evG, e_crefO, e_evD, e_readD, e_readO, e_evI, e_intO, e_evDs, e_evDs0, e_consO, e_regEnd, e_condX, e_boolOf, e_keepD, e_keepO, e_keepC, e_keepT, e_keepI, e_keepL, e_keepN, e_keepB, e_keepBn, e_finN, e_finR, e_res1, e_resD, e_resO, e_dV, e_res1c, e_res2, e_tupO, e_resDs, e_resDs0, e_resS, e_resC, e_cellO, e_wholeI, e_wholeS, e_wholeB, e_wholeL, e_wholeA, reduceCtorEq, Bool.not_false, Bool.not_true, Bool.and_self, Bool.true_and, Bool.false_and, Option.isNone_none, Option.isNone_some, Option.isSome_some, Option.isSome_none, or_true, true_or, or_false, false_or, and_true, true_and, eq_self, decide_true, decide_false, Bool.false_eq_true, Bool.true_eq_false, decide_eq_true_eq, ite_true, ite_false, Nat.reduceEqDiff, Nat.reduceAdd, Nat.reduceMul, Int.reduceLT, Int.reduceLE, Int.reduceEq, Int.reduceNeg, Int.reduceAdd, Int.reduceToNat, Int.toNat_natCast, Int.natCast_nonneg, List.length_cons, List.length_nil, Int.reduceNe, ne_eq, not_false_eq_true, not_true_eq_false, Nat.reduceSub, Option.map_some, decide_not, e_cellsI, e_cellsS, e_cellsB, e_cellsL, e_cellsE, e_cellsA, List.all_cons, List.all_nil, beq_self_eq_true, Nat.mul_one, Int.reducePow, Int.reduceMul, List.replicate_zero, List.nil_append, Nat.zero_add, e_sh_u8_1, e_sh_u8_3, e_sh_u8_4, e_sh_u8_7, e_sh_u32_1, e_sh_u32_3, e_sh_u32_4, e_sh_u32_7, e_sh_u32_8, e_sh_u32_16, e_sh_u32_24, e_sh_u32_31, e_sh_u64_1, e_sh_u64_3, e_sh_u64_4, e_sh_u64_7, e_sh_u64_8, e_sh_u64_16, e_sh_u64_24, e_sh_u64_31, e_sh_u64_32, e_sh_u64_40, e_sh_u64_48, e_sh_u64_56, e_sh_u64_60, e_sh_u64_63, e_sh_i64_1, e_sh_i64_3, e_sh_i64_4, e_sh_i64_7, e_sh_i64_8, e_sh_i64_16, e_sh_i64_24, e_sh_i64_31, e_sh_i64_32, e_sh_i64_40, e_sh_i64_48, e_sh_i64_56, e_sh_i64_60, e_sh_i64_63, e_keepU, s_call0, l_law2_QuoteBack_9, p_st]

theorem lawBack_data (a b : List UInt8) (ha : a.length ≤ 1048576) (hb : b.length ≤ 1048576) : C M n_law2_QuoteBack [.d (.slice 1 (bytesD a)), .d (.slice 1 (bytesD b))] = some (.d (.bool true)) := by
  rw [c_fn (sf := f_law2_QuoteBack) rfl rfl ⟨rfl, rfl⟩]
  have hfl := flat_len a
  have hql : (quoteL a).length ≤ 4 * a.length + 2 := by simp only [quoteL, List.length_cons, List.length_append, List.length_nil]; omega
  have s1 := quote_spec a (by omega)
  have s2 := unquote_spec (quoteL a) (by omega)
  have s3 := valid_spec a (by omega)
  have s4 := valid_spec b (by omega)
  have s5 := awake_data
  have s6 := runes_spec a (by omega)
  have s7 := runes_spec b (by omega)
  have s8 := valid_spec (a ++ b) (by simp; omega)
  have s9 := runes_spec (a ++ b) (by simp; omega)
  have hl := p_loop a b (quoteL a) (by omega) (quoteL_printed a)
  simp only [n_quote_Quote, n_quote_Unquote] at s1 s2
  simp only [p_st, Int.cast_ofNat_Int] at hl
  by_cases hbig : 65536 < (quoteL a).length
  · have e : unquoteL (quoteL a) = ([], 1) := by simp [unquoteL, hbig]
    rw [e, bytesD_nil] at s2
    simp -implicitDefEqProofs (maxSteps := 1000000) (disch := omega) only [↓Int.reduceLT, ↓Int.reduceLE, ↓Int.reduceEq, ↓Nat.reduceEqDiff, lt_T, lt_F, le_T, le_F, eq_T, eq_F, nlt_T, nlt_F, nle_T, nle_F, up_add, up_addL, up_mulL, up_1add, up_2add, up_sub, up_sub1, wrap_i64', wrap_i32', wrap_u64', wrap_u32', wrap_u8', Int.cast_ofNat_Int, s_call1, s_call2, s_call3, s_call4, s_call5, List.contains_cons, List.contains_nil, Nat.reduceBEq, Bool.or_true, Bool.or_false, Bool.true_or, Bool.false_or, ↓reduceIte, step_guard, e_guardW, e_guardWU, X_seq, x_reg, X_block, x_cond, X_ret, X_exit, X_skip, X_goto, X_label, condOf_eq, andThen_norm, andThen_exit, andThen_goto, andThen_ret, andThen_none, andThen_ite, outOf_norm, outOf_exit, outOf_goto, outOf_ret, outOf_none, outOf_ite, regEnd_ite, runL_ite, layD_ite, step_none, bound_none, bound_some, upd_at, get_nil, get_cons, St.toRS, restrict, keepEnv_nil, keepEnv_cons, keepBx_nil, keepBx_cons, initEnv, finO_ite, plainArgs, List.map_cons, List.map_nil, s_mov, s_pick, s_zbox, s_box, s_build, s_mk, s_load, s_store, s_bin, s_eqs, s_neg, s_not, s_cint, s_cstr, s_faddr, s_iaddr, s_aaddr, s_sidx, s_aidx, s_app, s_len, s_max2, s_make, s_slcs, s_slc, s_rng, s_nxt, s_ext, e_runL0, e_runL, e_runLn, e_layD, e_layV, e_put, e_put0, e_movOwn, e_movOwnC, e_movRead, e_movD, e_movL, e_movC, e_movT, e_pick, e_bin, e_binI, e_binS, e_binB, e_binE, e_add, e_sub, e_mul, e_quo, e_rem, e_and, e_or, e_xor, e_andNot, e_shl, e_shr, e_eql, e_neq, e_lss, e_leq, e_gtr, e_geq, e_sadd, e_seql, e_sneq, e_slss, e_sgtr, e_beql, e_bneq, e_eeql, e_eneq, e_eqs, e_neg, e_not, e_cint, e_cref, e_iaddr, e_byte, e_sidx, e_aidx, e_len, e_lenS, e_max2, e_make, e_slcs, e_slc, e_lenOfS, e_lenOf, e_nat, e_rng, e_ext, e_loadC, e_loadL, e_subB, e_store, e_storeB, e_faddrL, e_faddrC, e_aaddrL, e_aaddrC, e_zbox, e_zboxB, e_box, e_build, e_mk, e_app, e_appC, e_appS, e_appSC, e_nxt, e_dArgs, e_call, e_evT, e_evC, e_evG, e_crefO, e_evD, e_readD, e_readO, e_evI, e_intO, e_evDs, e_evDs0, e_consO, e_regEnd, e_condX, e_boolOf, e_keepD, e_keepO, e_keepC, e_keepT, e_keepI, e_keepL, e_keepN, e_keepB, e_keepBn, e_finN, e_finR, e_res1, e_resD, e_resO, e_dV, e_res1c, e_res2, e_tupO, e_resDs, e_resDs0, e_resS, e_resC, e_cellO, e_wholeI, e_wholeS, e_wholeB, e_wholeL, e_wholeA, reduceCtorEq, Bool.not_false, Bool.not_true, Bool.and_self, Bool.true_and, Bool.false_and, Option.isNone_none, Option.isNone_some, Option.isSome_some, Option.isSome_none, or_true, true_or, or_false, false_or, and_true, true_and, eq_self, decide_true, decide_false, Bool.false_eq_true, Bool.true_eq_false, decide_eq_true_eq, ite_true, ite_false, Nat.reduceEqDiff, Nat.reduceAdd, Nat.reduceMul, Int.reduceLT, Int.reduceLE, Int.reduceEq, Int.reduceNeg, Int.reduceAdd, Int.reduceToNat, Int.toNat_natCast, Int.natCast_nonneg, List.length_cons, List.length_nil, Int.reduceNe, ne_eq, not_false_eq_true, not_true_eq_false, Nat.reduceSub, Option.map_some, decide_not, e_cellsI, e_cellsS, e_cellsB, e_cellsL, e_cellsE, e_cellsA, List.all_cons, List.all_nil, beq_self_eq_true, Nat.mul_one, Int.reducePow, Int.reduceMul, List.replicate_zero, List.nil_append, Nat.zero_add, e_sh_u8_1, e_sh_u8_3, e_sh_u8_4, e_sh_u8_7, e_sh_u32_1, e_sh_u32_3, e_sh_u32_4, e_sh_u32_7, e_sh_u32_8, e_sh_u32_16, e_sh_u32_24, e_sh_u32_31, e_sh_u64_1, e_sh_u64_3, e_sh_u64_4, e_sh_u64_7, e_sh_u64_8, e_sh_u64_16, e_sh_u64_24, e_sh_u64_31, e_sh_u64_32, e_sh_u64_40, e_sh_u64_48, e_sh_u64_56, e_sh_u64_60, e_sh_u64_63, e_sh_i64_1, e_sh_i64_3, e_sh_i64_4, e_sh_i64_7, e_sh_i64_8, e_sh_i64_16, e_sh_i64_24, e_sh_i64_31, e_sh_i64_32, e_sh_i64_40, e_sh_i64_48, e_sh_i64_56, e_sh_i64_60, e_sh_i64_63, e_keepU, s_call0, f_law2_QuoteBack, s1, s2, s5, hl, List.getElem?_cons_zero, List.getElem?_cons_succ]
  have e := unquote_back a (by omega)
  rw [e] at s2
  cases hra : runes a with
  | none =>
    simp only [hra, Option.isSome_none, Option.getD_none] at s3 s6
    simp -implicitDefEqProofs (maxSteps := 1000000) (disch := omega) only [↓Int.reduceLT, ↓Int.reduceLE, ↓Int.reduceEq, ↓Nat.reduceEqDiff, lt_T, lt_F, le_T, le_F, eq_T, eq_F, nlt_T, nlt_F, nle_T, nle_F, up_add, up_addL, up_mulL, up_1add, up_2add, up_sub, up_sub1, wrap_i64', wrap_i32', wrap_u64', wrap_u32', wrap_u8', Int.cast_ofNat_Int, s_call1, s_call2, s_call3, s_call4, s_call5, List.contains_cons, List.contains_nil, Nat.reduceBEq, Bool.or_true, Bool.or_false, Bool.true_or, Bool.false_or, ↓reduceIte, step_guard, e_guardW, e_guardWU, X_seq, x_reg, X_block, x_cond, X_ret, X_exit, X_skip, X_goto, X_label, condOf_eq, andThen_norm, andThen_exit, andThen_goto, andThen_ret, andThen_none, andThen_ite, outOf_norm, outOf_exit, outOf_goto, outOf_ret, outOf_none, outOf_ite, regEnd_ite, runL_ite, layD_ite, step_none, bound_none, bound_some, upd_at, get_nil, get_cons, St.toRS, restrict, keepEnv_nil, keepEnv_cons, keepBx_nil, keepBx_cons, initEnv, finO_ite, plainArgs, List.map_cons, List.map_nil, s_mov, s_pick, s_zbox, s_box, s_build, s_mk, s_load, s_store, s_bin, s_eqs, s_neg, s_not, s_cint, s_cstr, s_faddr, s_iaddr, s_aaddr, s_sidx, s_aidx, s_app, s_len, s_max2, s_make, s_slcs, s_slc, s_rng, s_nxt, s_ext, e_runL0, e_runL, e_runLn, e_layD, e_layV, e_put, e_put0, e_movOwn, e_movOwnC, e_movRead, e_movD, e_movL, e_movC, e_movT, e_pick, e_bin, e_binI, e_binS, e_binB, e_binE, e_add, e_sub, e_mul, e_quo, e_rem, e_and, e_or, e_xor, e_andNot, e_shl, e_shr, e_eql, e_neq, e_lss, e_leq, e_gtr, e_geq, e_sadd, e_seql, e_sneq, e_slss, e_sgtr, e_beql, e_bneq, e_eeql, e_eneq, e_eqs, e_neg, e_not, e_cint, e_cref, e_iaddr, e_byte, e_sidx, e_aidx, e_len, e_lenS, e_max2, e_make, e_slcs, e_slc, e_lenOfS, e_lenOf, e_nat, e_rng, e_ext, e_loadC, e_loadL, e_subB, e_store, e_storeB, e_faddrL, e_faddrC, e_aaddrL, e_aaddrC, e_zbox, e_zboxB, e_box, e_build, e_mk, e_app, e_appC, e_appS, e_appSC, e_nxt, e_dArgs, e_call, e_evT, e_evC, e_evG, e_crefO, e_evD, e_readD, e_readO, e_evI, e_intO, e_evDs, e_evDs0, e_consO, e_regEnd, e_condX, e_boolOf, e_keepD, e_keepO, e_keepC, e_keepT, e_keepI, e_keepL, e_keepN, e_keepB, e_keepBn, e_finN, e_finR, e_res1, e_resD, e_resO, e_dV, e_res1c, e_res2, e_tupO, e_resDs, e_resDs0, e_resS, e_resC, e_cellO, e_wholeI, e_wholeS, e_wholeB, e_wholeL, e_wholeA, reduceCtorEq, Bool.not_false, Bool.not_true, Bool.and_self, Bool.true_and, Bool.false_and, Option.isNone_none, Option.isNone_some, Option.isSome_some, Option.isSome_none, or_true, true_or, or_false, false_or, and_true, true_and, eq_self, decide_true, decide_false, Bool.false_eq_true, Bool.true_eq_false, decide_eq_true_eq, ite_true, ite_false, Nat.reduceEqDiff, Nat.reduceAdd, Nat.reduceMul, Int.reduceLT, Int.reduceLE, Int.reduceEq, Int.reduceNeg, Int.reduceAdd, Int.reduceToNat, Int.toNat_natCast, Int.natCast_nonneg, List.length_cons, List.length_nil, Int.reduceNe, ne_eq, not_false_eq_true, not_true_eq_false, Nat.reduceSub, Option.map_some, decide_not, e_cellsI, e_cellsS, e_cellsB, e_cellsL, e_cellsE, e_cellsA, List.all_cons, List.all_nil, beq_self_eq_true, Nat.mul_one, Int.reducePow, Int.reduceMul, List.replicate_zero, List.nil_append, Nat.zero_add, e_sh_u8_1, e_sh_u8_3, e_sh_u8_4, e_sh_u8_7, e_sh_u32_1, e_sh_u32_3, e_sh_u32_4, e_sh_u32_7, e_sh_u32_8, e_sh_u32_16, e_sh_u32_24, e_sh_u32_31, e_sh_u64_1, e_sh_u64_3, e_sh_u64_4, e_sh_u64_7, e_sh_u64_8, e_sh_u64_16, e_sh_u64_24, e_sh_u64_31, e_sh_u64_32, e_sh_u64_40, e_sh_u64_48, e_sh_u64_56, e_sh_u64_60, e_sh_u64_63, e_sh_i64_1, e_sh_i64_3, e_sh_i64_4, e_sh_i64_7, e_sh_i64_8, e_sh_i64_16, e_sh_i64_24, e_sh_i64_31, e_sh_i64_32, e_sh_i64_40, e_sh_i64_48, e_sh_i64_56, e_sh_i64_60, e_sh_i64_63, e_keepU, s_call0, f_law2_QuoteBack, s1, s2, s3, s4, s5, s6, hl, List.getElem?_cons_zero, List.getElem?_cons_succ, e_cstrB]
  | some x =>
    simp only [hra, Option.isSome_some, Option.getD_some] at s3 s6
    cases hrb : runes b with
    | none =>
      simp only [hrb, Option.isSome_none, Option.getD_none] at s4 s7
      simp -implicitDefEqProofs (maxSteps := 1000000) (disch := omega) only [↓Int.reduceLT, ↓Int.reduceLE, ↓Int.reduceEq, ↓Nat.reduceEqDiff, lt_T, lt_F, le_T, le_F, eq_T, eq_F, nlt_T, nlt_F, nle_T, nle_F, up_add, up_addL, up_mulL, up_1add, up_2add, up_sub, up_sub1, wrap_i64', wrap_i32', wrap_u64', wrap_u32', wrap_u8', Int.cast_ofNat_Int, s_call1, s_call2, s_call3, s_call4, s_call5, List.contains_cons, List.contains_nil, Nat.reduceBEq, Bool.or_true, Bool.or_false, Bool.true_or, Bool.false_or, ↓reduceIte, step_guard, e_guardW, e_guardWU, X_seq, x_reg, X_block, x_cond, X_ret, X_exit, X_skip, X_goto, X_label, condOf_eq, andThen_norm, andThen_exit, andThen_goto, andThen_ret, andThen_none, andThen_ite, outOf_norm, outOf_exit, outOf_goto, outOf_ret, outOf_none, outOf_ite, regEnd_ite, runL_ite, layD_ite, step_none, bound_none, bound_some, upd_at, get_nil, get_cons, St.toRS, restrict, keepEnv_nil, keepEnv_cons, keepBx_nil, keepBx_cons, initEnv, finO_ite, plainArgs, List.map_cons, List.map_nil, s_mov, s_pick, s_zbox, s_box, s_build, s_mk, s_load, s_store, s_bin, s_eqs, s_neg, s_not, s_cint, s_cstr, s_faddr, s_iaddr, s_aaddr, s_sidx, s_aidx, s_app, s_len, s_max2, s_make, s_slcs, s_slc, s_rng, s_nxt, s_ext, e_runL0, e_runL, e_runLn, e_layD, e_layV, e_put, e_put0, e_movOwn, e_movOwnC, e_movRead, e_movD, e_movL, e_movC, e_movT, e_pick, e_bin, e_binI, e_binS, e_binB, e_binE, e_add, e_sub, e_mul, e_quo, e_rem, e_and, e_or, e_xor, e_andNot, e_shl, e_shr, e_eql, e_neq, e_lss, e_leq, e_gtr, e_geq, e_sadd, e_seql, e_sneq, e_slss, e_sgtr, e_beql, e_bneq, e_eeql, e_eneq, e_eqs, e_neg, e_not, e_cint, e_cref, e_iaddr, e_byte, e_sidx, e_aidx, e_len, e_lenS, e_max2, e_make, e_slcs, e_slc, e_lenOfS, e_lenOf, e_nat, e_rng, e_ext, e_loadC, e_loadL, e_subB, e_store, e_storeB, e_faddrL, e_faddrC, e_aaddrL, e_aaddrC, e_zbox, e_zboxB, e_box, e_build, e_mk, e_app, e_appC, e_appS, e_appSC, e_nxt, e_dArgs, e_call, e_evT, e_evC, e_evG, e_crefO, e_evD, e_readD, e_readO, e_evI, e_intO, e_evDs, e_evDs0, e_consO, e_regEnd, e_condX, e_boolOf, e_keepD, e_keepO, e_keepC, e_keepT, e_keepI, e_keepL, e_keepN, e_keepB, e_keepBn, e_finN, e_finR, e_res1, e_resD, e_resO, e_dV, e_res1c, e_res2, e_tupO, e_resDs, e_resDs0, e_resS, e_resC, e_cellO, e_wholeI, e_wholeS, e_wholeB, e_wholeL, e_wholeA, reduceCtorEq, Bool.not_false, Bool.not_true, Bool.and_self, Bool.true_and, Bool.false_and, Option.isNone_none, Option.isNone_some, Option.isSome_some, Option.isSome_none, or_true, true_or, or_false, false_or, and_true, true_and, eq_self, decide_true, decide_false, Bool.false_eq_true, Bool.true_eq_false, decide_eq_true_eq, ite_true, ite_false, Nat.reduceEqDiff, Nat.reduceAdd, Nat.reduceMul, Int.reduceLT, Int.reduceLE, Int.reduceEq, Int.reduceNeg, Int.reduceAdd, Int.reduceToNat, Int.toNat_natCast, Int.natCast_nonneg, List.length_cons, List.length_nil, Int.reduceNe, ne_eq, not_false_eq_true, not_true_eq_false, Nat.reduceSub, Option.map_some, decide_not, e_cellsI, e_cellsS, e_cellsB, e_cellsL, e_cellsE, e_cellsA, List.all_cons, List.all_nil, beq_self_eq_true, Nat.mul_one, Int.reducePow, Int.reduceMul, List.replicate_zero, List.nil_append, Nat.zero_add, e_sh_u8_1, e_sh_u8_3, e_sh_u8_4, e_sh_u8_7, e_sh_u32_1, e_sh_u32_3, e_sh_u32_4, e_sh_u32_7, e_sh_u32_8, e_sh_u32_16, e_sh_u32_24, e_sh_u32_31, e_sh_u64_1, e_sh_u64_3, e_sh_u64_4, e_sh_u64_7, e_sh_u64_8, e_sh_u64_16, e_sh_u64_24, e_sh_u64_31, e_sh_u64_32, e_sh_u64_40, e_sh_u64_48, e_sh_u64_56, e_sh_u64_60, e_sh_u64_63, e_sh_i64_1, e_sh_i64_3, e_sh_i64_4, e_sh_i64_7, e_sh_i64_8, e_sh_i64_16, e_sh_i64_24, e_sh_i64_31, e_sh_i64_32, e_sh_i64_40, e_sh_i64_48, e_sh_i64_56, e_sh_i64_60, e_sh_i64_63, e_keepU, s_call0, f_law2_QuoteBack, s1, s2, s3, s4, s5, s6, hl, List.getElem?_cons_zero, List.getElem?_cons_succ, e_cstrB]
    | some y =>
      simp only [hrb, Option.isSome_some, Option.getD_some] at s4 s7
      have hc := runes_append a.length a b x y (Nat.le_refl _) hra hrb
      have hx := runes_le _ a (Nat.le_refl _) x hra
      have hy := runes_le _ b (Nat.le_refl _) y hrb
      simp only [hc, Option.isSome_some, Option.getD_some] at s8 s9
      simp -implicitDefEqProofs (maxSteps := 1000000) (disch := omega) only [↓Int.reduceLT, ↓Int.reduceLE, ↓Int.reduceEq, ↓Nat.reduceEqDiff, lt_T, lt_F, le_T, le_F, eq_T, eq_F, nlt_T, nlt_F, nle_T, nle_F, up_add, up_addL, up_mulL, up_1add, up_2add, up_sub, up_sub1, wrap_i64', wrap_i32', wrap_u64', wrap_u32', wrap_u8', Int.cast_ofNat_Int, s_call1, s_call2, s_call3, s_call4, s_call5, List.contains_cons, List.contains_nil, Nat.reduceBEq, Bool.or_true, Bool.or_false, Bool.true_or, Bool.false_or, ↓reduceIte, step_guard, e_guardW, e_guardWU, X_seq, x_reg, X_block, x_cond, X_ret, X_exit, X_skip, X_goto, X_label, condOf_eq, andThen_norm, andThen_exit, andThen_goto, andThen_ret, andThen_none, andThen_ite, outOf_norm, outOf_exit, outOf_goto, outOf_ret, outOf_none, outOf_ite, regEnd_ite, runL_ite, layD_ite, step_none, bound_none, bound_some, upd_at, get_nil, get_cons, St.toRS, restrict, keepEnv_nil, keepEnv_cons, keepBx_nil, keepBx_cons, initEnv, finO_ite, plainArgs, List.map_cons, List.map_nil, s_mov, s_pick, s_zbox, s_box, s_build, s_mk, s_load, s_store, s_bin, s_eqs, s_neg, s_not, s_cint, s_cstr, s_faddr, s_iaddr, s_aaddr, s_sidx, s_aidx, s_app, s_len, s_max2, s_make, s_slcs, s_slc, s_rng, s_nxt, s_ext, e_runL0, e_runL, e_runLn, e_layD, e_layV, e_put, e_put0, e_movOwn, e_movOwnC, e_movRead, e_movD, e_movL, e_movC, e_movT, e_pick, e_bin, e_binI, e_binS, e_binB, e_binE, e_add, e_sub, e_mul, e_quo, e_rem, e_and, e_or, e_xor, e_andNot, e_shl, e_shr, e_eql, e_neq, e_lss, e_leq, e_gtr, e_geq, e_sadd, e_seql, e_sneq, e_slss, e_sgtr, e_beql, e_bneq, e_eeql, e_eneq, e_eqs, e_neg, e_not, e_cint, e_cref, e_iaddr, e_byte, e_sidx, e_aidx, e_len, e_lenS, e_max2, e_make, e_slcs, e_slc, e_lenOfS, e_lenOf, e_nat, e_rng, e_ext, e_loadC, e_loadL, e_subB, e_store, e_storeB, e_faddrL, e_faddrC, e_aaddrL, e_aaddrC, e_zbox, e_zboxB, e_box, e_build, e_mk, e_app, e_appC, e_appS, e_appSC, e_nxt, e_dArgs, e_call, e_evT, e_evC, e_evG, e_crefO, e_evD, e_readD, e_readO, e_evI, e_intO, e_evDs, e_evDs0, e_consO, e_regEnd, e_condX, e_boolOf, e_keepD, e_keepO, e_keepC, e_keepT, e_keepI, e_keepL, e_keepN, e_keepB, e_keepBn, e_finN, e_finR, e_res1, e_resD, e_resO, e_dV, e_res1c, e_res2, e_tupO, e_resDs, e_resDs0, e_resS, e_resC, e_cellO, e_wholeI, e_wholeS, e_wholeB, e_wholeL, e_wholeA, reduceCtorEq, Bool.not_false, Bool.not_true, Bool.and_self, Bool.true_and, Bool.false_and, Option.isNone_none, Option.isNone_some, Option.isSome_some, Option.isSome_none, or_true, true_or, or_false, false_or, and_true, true_and, eq_self, decide_true, decide_false, Bool.false_eq_true, Bool.true_eq_false, decide_eq_true_eq, ite_true, ite_false, Nat.reduceEqDiff, Nat.reduceAdd, Nat.reduceMul, Int.reduceLT, Int.reduceLE, Int.reduceEq, Int.reduceNeg, Int.reduceAdd, Int.reduceToNat, Int.toNat_natCast, Int.natCast_nonneg, List.length_cons, List.length_nil, Int.reduceNe, ne_eq, not_false_eq_true, not_true_eq_false, Nat.reduceSub, Option.map_some, decide_not, e_cellsI, e_cellsS, e_cellsB, e_cellsL, e_cellsE, e_cellsA, List.all_cons, List.all_nil, beq_self_eq_true, Nat.mul_one, Int.reducePow, Int.reduceMul, List.replicate_zero, List.nil_append, Nat.zero_add, e_sh_u8_1, e_sh_u8_3, e_sh_u8_4, e_sh_u8_7, e_sh_u32_1, e_sh_u32_3, e_sh_u32_4, e_sh_u32_7, e_sh_u32_8, e_sh_u32_16, e_sh_u32_24, e_sh_u32_31, e_sh_u64_1, e_sh_u64_3, e_sh_u64_4, e_sh_u64_7, e_sh_u64_8, e_sh_u64_16, e_sh_u64_24, e_sh_u64_31, e_sh_u64_32, e_sh_u64_40, e_sh_u64_48, e_sh_u64_56, e_sh_u64_60, e_sh_u64_63, e_sh_i64_1, e_sh_i64_3, e_sh_i64_4, e_sh_i64_7, e_sh_i64_8, e_sh_i64_16, e_sh_i64_24, e_sh_i64_31, e_sh_i64_32, e_sh_i64_40, e_sh_i64_48, e_sh_i64_56, e_sh_i64_60, e_sh_i64_63, e_keepU, s_call0, f_law2_QuoteBack, s1, s2, s3, s4, s5, s6, s7, s8, s9, hl, List.getElem?_cons_zero, List.getElem?_cons_succ, e_cstrB, bytesD_length, ← bytesD_append]
end Go.Proofs.YtladdhfkmnhmfaaDoor
