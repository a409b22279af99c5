/-
  What Parse answers of a value's text: over data.
-/
import Derived.Test.YtedncpnkbpbchaaGreatDoorTxt
set_option linter.unusedVariables false
set_option linter.unusedSimpArgs false
set_option maxRecDepth 100000
set_option maxHeartbeats 16000000
namespace Go.Proofs.YtedncpnkbpbchaaGreatDoor
open Go.Vi

theorem parseU_spec (n : Nat) (hn : n < 18446744073709551616) : C M 63 [.d (.str (Lib.decDigits n)), .d (.int .i64 10), .d (.int .i64 64)] = some (.tup [.int .u64 n, .err false]) := by
  rw [C_prim (p := parsePrim) rfl]
  show parsePrim [.str (Lib.decDigits n), .int .i64 10, .int .i64 64] = _
  have := dec_len20 n hn
  simp only [parsePrim]
  rw [if_pos ⟨trivial, trivial, by omega⟩, parse_back n hn]
theorem prefix_spec (c : UInt8) (r : List UInt8) (hl : r.length ≤ 1048576) : C M 89 [.d (.str (c :: r)), .d (.str [45])] = some (.d (.bool (decide (c = 45)))) := by
  rw [c_fn (sf := f_internal_stringslite_HasPrefix) rfl rfl ⟨rfl, rfl⟩]
  have hlen : (c :: r).length = r.length + 1 := rfl
  by_cases h : c = 45
  · subst h
    simp -implicitDefEqProofs (maxSteps := 1000000) (disch := omega) only [↓Int.reduceLT, ↓Int.reduceLE, ↓Int.reduceEq, ↓Nat.reduceEqDiff, Nat.reduceBEq, ↓reduceIte, St.toRS, restrict, initEnv, plainArgs, reduceCtorEq, Nat.reduceEqDiff, Nat.reduceAdd, Nat.reduceMul, Int.reduceLT, Int.reduceLE, Int.reduceEq, Int.reduceNeg, Int.reduceAdd, Int.reduceToNat, Int.reduceNe, Nat.reduceSub, Int.reducePow, Int.reduceMul, vb0, vb1, vb2, vb3, vb4, vb5, vb6, vb7, f_internal_stringslite_HasPrefix, hlen, List.take_succ_cons, List.take_zero, List.drop_zero]
  · have e : decide (c = 45) = false := by simp [h]
    have e2 : ([c] = [45]) = False := by simp [h]
    simp -implicitDefEqProofs (maxSteps := 1000000) (disch := omega) only [↓Int.reduceLT, ↓Int.reduceLE, ↓Int.reduceEq, ↓Nat.reduceEqDiff, Nat.reduceBEq, ↓reduceIte, St.toRS, restrict, initEnv, plainArgs, reduceCtorEq, Nat.reduceEqDiff, Nat.reduceAdd, Nat.reduceMul, Int.reduceLT, Int.reduceLE, Int.reduceEq, Int.reduceNeg, Int.reduceAdd, Int.reduceToNat, Int.reduceNe, Nat.reduceSub, Int.reducePow, Int.reduceMul, vb0, vb1, vb2, vb3, vb4, vb5, vb6, vb7, f_internal_stringslite_HasPrefix, hlen, e, e2, List.take_succ_cons, List.take_zero, List.drop_zero]
theorem cutI_spec (c : UInt8) (r : List UInt8) (hl : r.length ≤ 1048576) : C M 81 [.d (.str (c :: r)), .d (.str [45])] = some (if c = 45 then .tup [.str r, .bool true] else .tup [.str (c :: r), .bool false]) := by
  rw [c_fn (sf := f_internal_stringslite_CutPrefix) rfl rfl ⟨rfl, rfl⟩]
  have hlen : (c :: r).length = r.length + 1 := rfl
  have hp := prefix_spec c r hl
  by_cases h : c = 45
  · have e : decide (c = 45) = true := by simp [h]
    rw [e] at hp
    rw [if_pos h]
    have ht : (c :: r).take (r.length + 1) = c :: r := List.take_of_length_le (by simp)
    simp -implicitDefEqProofs (maxSteps := 1000000) (disch := omega) only [↓Int.reduceLT, ↓Int.reduceLE, ↓Int.reduceEq, ↓Nat.reduceEqDiff, Nat.reduceBEq, ↓reduceIte, St.toRS, restrict, initEnv, plainArgs, reduceCtorEq, Nat.reduceEqDiff, Nat.reduceAdd, Nat.reduceMul, Int.reduceLT, Int.reduceLE, Int.reduceEq, Int.reduceNeg, Int.reduceAdd, Int.reduceToNat, Int.reduceNe, Nat.reduceSub, Int.reducePow, Int.reduceMul, vb0, vb1, vb2, vb3, vb4, vb5, vb6, vb7, f_internal_stringslite_CutPrefix, hlen, hp, ht, List.drop_succ_cons, List.drop_zero]
  · have e : decide (c = 45) = false := by simp [h]
    rw [e] at hp
    rw [if_neg h]
    simp -implicitDefEqProofs (maxSteps := 1000000) (disch := omega) only [↓Int.reduceLT, ↓Int.reduceLE, ↓Int.reduceEq, ↓Nat.reduceEqDiff, Nat.reduceBEq, ↓reduceIte, St.toRS, restrict, initEnv, plainArgs, reduceCtorEq, Nat.reduceEqDiff, Nat.reduceAdd, Nat.reduceMul, Int.reduceLT, Int.reduceLE, Int.reduceEq, Int.reduceNeg, Int.reduceAdd, Int.reduceToNat, Int.reduceNe, Nat.reduceSub, Int.reducePow, Int.reduceMul, vb0, vb1, vb2, vb3, vb4, vb5, vb6, vb7, f_internal_stringslite_CutPrefix, hlen, hp]
theorem cut_minus (r : List UInt8) (hl : r.length ≤ 1048576) : C M 62 [.d (.str (45 :: r)), .d (.str [45])] = some (.tup [.str r, .bool true]) := by
  rw [c_fn (sf := f_strings_CutPrefix) rfl rfl ⟨rfl, rfl⟩]
  have hp := cutI_spec 45 r hl
  rw [if_pos rfl] at hp
  simp -implicitDefEqProofs (maxSteps := 1000000) (disch := omega) only [↓Int.reduceLT, ↓Int.reduceLE, ↓Int.reduceEq, ↓Nat.reduceEqDiff, Nat.reduceBEq, ↓reduceIte, St.toRS, restrict, initEnv, plainArgs, reduceCtorEq, Nat.reduceEqDiff, Nat.reduceAdd, Nat.reduceMul, Int.reduceLT, Int.reduceLE, Int.reduceEq, Int.reduceNeg, Int.reduceAdd, Int.reduceToNat, Int.reduceNe, Nat.reduceSub, Int.reducePow, Int.reduceMul, vb0, vb1, vb2, vb3, vb4, vb5, vb6, vb7, f_strings_CutPrefix, hp, List.getElem?_cons_zero, List.getElem?_cons_succ]
theorem cut_plain (c : UInt8) (r : List UInt8) (hl : r.length ≤ 1048576) (hc : c ≠ 45) : C M 62 [.d (.str (c :: r)), .d (.str [45])] = some (.tup [.str (c :: r), .bool false]) := by
  rw [c_fn (sf := f_strings_CutPrefix) rfl rfl ⟨rfl, rfl⟩]
  have hp := cutI_spec c r hl
  rw [if_neg hc] at hp
  simp -implicitDefEqProofs (maxSteps := 1000000) (disch := omega) only [↓Int.reduceLT, ↓Int.reduceLE, ↓Int.reduceEq, ↓Nat.reduceEqDiff, Nat.reduceBEq, ↓reduceIte, St.toRS, restrict, initEnv, plainArgs, reduceCtorEq, Nat.reduceEqDiff, Nat.reduceAdd, Nat.reduceMul, Int.reduceLT, Int.reduceLE, Int.reduceEq, Int.reduceNeg, Int.reduceAdd, Int.reduceToNat, Int.reduceNe, Nat.reduceSub, Int.reducePow, Int.reduceMul, vb0, vb1, vb2, vb3, vb4, vb5, vb6, vb7, f_strings_CutPrefix, hp, List.getElem?_cons_zero, List.getElem?_cons_succ]

/-! ### Whole numbers -/
def w_st (s : List UInt8) (sg mi : Bool) (i : Nat) : St := { env := [(0, .d (.str s)), (1, .d (.bool sg)), (6, .d (.bool mi)), (19, .d (.int .i64 s.length)), (20, .d (.int .i64 i))], bx := [] }
theorem wh_loop (s : List UInt8) (sg mi : Bool) (hs : s.length ≤ 1048576) (hp : ∀ x ∈ s, 48 ≤ x.toNat ∧ x.toNat ≤ 57) :
    X M (.loop l_scalar_whole_10) (w_st s sg mi 0) = some (.exit 0, { env := [(0, .d (.str s)), (1, .d (.bool sg)), (6, .d (.bool mi)), (19, .d (.int .i64 s.length)), (20, .d (.int .i64 s.length)), (21, .d (.bool false))], bx := [] }) := by
  refine loop_to (M := M) (b := l_scalar_whole_10) (inv := fun i => w_st s sg mi i) (n := s.length) (fun i hi => ?_) ?_ 0 (by omega)
  · have hg : s[i]? = some s[i] := by simp [hi]
    obtain ⟨p1, p2⟩ := hp s[i] (by simp)
    generalize s[i] = c at hg p1 p2
    simp -implicitDefEqProofs (maxSteps := 1000000) (disch := omega) only [↓Int.reduceLT, ↓Int.reduceLE, ↓Int.reduceEq, ↓Nat.reduceEqDiff, Nat.reduceBEq, ↓reduceIte, St.toRS, restrict, initEnv, plainArgs, reduceCtorEq, Nat.reduceEqDiff, Nat.reduceAdd, Nat.reduceMul, Int.reduceLT, Int.reduceLE, Int.reduceEq, Int.reduceNeg, Int.reduceAdd, Int.reduceToNat, Int.reduceNe, Nat.reduceSub, Int.reducePow, Int.reduceMul, vb0, vb1, vb2, vb3, vb4, vb5, vb6, vb7, l_scalar_whole_10, w_st, hg]
  · refine loop_exit ?_ (by simp)
    simp -implicitDefEqProofs (maxSteps := 1000000) (disch := omega) only [↓Int.reduceLT, ↓Int.reduceLE, ↓Int.reduceEq, ↓Nat.reduceEqDiff, Nat.reduceBEq, ↓reduceIte, St.toRS, restrict, initEnv, plainArgs, reduceCtorEq, Nat.reduceEqDiff, Nat.reduceAdd, Nat.reduceMul, Int.reduceLT, Int.reduceLE, Int.reduceEq, Int.reduceNeg, Int.reduceAdd, Int.reduceToNat, Int.reduceNe, Nat.reduceSub, Int.reducePow, Int.reduceMul, vb0, vb1, vb2, vb3, vb4, vb5, vb6, vb7, l_scalar_whole_10, w_st]
theorem whole_plain (n : Nat) (hn : n < 18446744073709551616) : C M 42 [.d (.str (Lib.decDigits n)), .d (.bool false)] = some (.tup [.int .u64 n, .int .i64 0]) := by
  rw [c_fn (sf := f_scalar_whole) rfl rfl ⟨rfl, rfl⟩]
  have hl := dec_len20 n hn
  have w1 := wh_loop (Lib.decDigits n) false false (by omega) (dec_digit n)
  have w2 := parseU_spec n hn
  have hne : (Lib.decDigits n = []) = False := eq_false (dec_ne n)
  simp only [w_st, Int.cast_ofNat_Int] at w1
  generalize Lib.decDigits n = s at *
  simp -implicitDefEqProofs (maxSteps := 1000000) (disch := omega) only [↓Int.reduceLT, ↓Int.reduceLE, ↓Int.reduceEq, ↓Nat.reduceEqDiff, Nat.reduceBEq, ↓reduceIte, St.toRS, restrict, initEnv, plainArgs, reduceCtorEq, Nat.reduceEqDiff, Nat.reduceAdd, Nat.reduceMul, Int.reduceLT, Int.reduceLE, Int.reduceEq, Int.reduceNeg, Int.reduceAdd, Int.reduceToNat, Int.reduceNe, Nat.reduceSub, Int.reducePow, Int.reduceMul, vb0, vb1, vb2, vb3, vb4, vb5, vb6, vb7, f_scalar_whole, w1, w2, hne, List.getElem?_cons_zero, List.getElem?_cons_succ]
theorem whole_pos (n : Nat) (hn : n < 9223372036854775808) : C M 42 [.d (.str (Lib.decDigits n)), .d (.bool true)] = some (.tup [.int .u64 n, .int .i64 0]) := by
  rw [c_fn (sf := f_scalar_whole) rfl rfl ⟨rfl, rfl⟩]
  have hl := dec_len20 n (by omega)
  have w1 := wh_loop (Lib.decDigits n) true false (by omega) (dec_digit n)
  have w2 := parseU_spec n (by omega)
  have hne : (Lib.decDigits n = []) = False := eq_false (dec_ne n)
  have w3 : C M 62 [.d (.str (Lib.decDigits n)), .d (.str [45])] = some (.tup [.str (Lib.decDigits n), .bool false]) := by
    cases hd : Lib.decDigits n with
    | nil => exact absurd hd (dec_ne n)
    | cons c r =>
      have hc := dec_digit n c (by rw [hd]; simp)
      rw [hd] at hl
      simp only [List.length_cons] at hl
      exact cut_plain c r (by omega) (by rintro rfl; simp at hc)
  simp only [w_st, Int.cast_ofNat_Int] at w1
  generalize Lib.decDigits n = s at *
  simp -implicitDefEqProofs (maxSteps := 1000000) (disch := omega) only [↓Int.reduceLT, ↓Int.reduceLE, ↓Int.reduceEq, ↓Nat.reduceEqDiff, Nat.reduceBEq, ↓reduceIte, St.toRS, restrict, initEnv, plainArgs, reduceCtorEq, Nat.reduceEqDiff, Nat.reduceAdd, Nat.reduceMul, Int.reduceLT, Int.reduceLE, Int.reduceEq, Int.reduceNeg, Int.reduceAdd, Int.reduceToNat, Int.reduceNe, Nat.reduceSub, Int.reducePow, Int.reduceMul, vb0, vb1, vb2, vb3, vb4, vb5, vb6, vb7, f_scalar_whole, w1, w2, w3, hne, List.getElem?_cons_zero, List.getElem?_cons_succ]
theorem whole_neg (m n : Nat) (hm : 1 ≤ m ∧ m ≤ 9223372036854775808) (hn : n + m = 18446744073709551616) : C M 42 [.d (.str (45 :: Lib.decDigits m)), .d (.bool true)] = some (.tup [.int .u64 n, .int .i64 0]) := by
  rw [c_fn (sf := f_scalar_whole) rfl rfl ⟨rfl, rfl⟩]
  have hl := dec_len20 m (by omega)
  have w1 := wh_loop (Lib.decDigits m) true true (by omega) (dec_digit m)
  have w2 := parseU_spec m (by omega)
  have hne : (Lib.decDigits m = []) = False := eq_false (dec_ne m)
  have w3 := cut_minus (Lib.decDigits m) (by omega)
  have w4 : IntKind.u64.wrap (0 - (m : Int)) = (n : Int) := by
    rw [wrap_u64_neg (by omega) (by omega)]; omega
  simp only [w_st, Int.cast_ofNat_Int] at w1
  generalize Lib.decDigits m = s at *
  simp -implicitDefEqProofs (maxSteps := 1000000) (disch := omega) only [↓Int.reduceLT, ↓Int.reduceLE, ↓Int.reduceEq, ↓Nat.reduceEqDiff, Nat.reduceBEq, ↓reduceIte, St.toRS, restrict, initEnv, plainArgs, reduceCtorEq, Nat.reduceEqDiff, Nat.reduceAdd, Nat.reduceMul, Int.reduceLT, Int.reduceLE, Int.reduceEq, Int.reduceNeg, Int.reduceAdd, Int.reduceToNat, Int.reduceNe, Nat.reduceSub, Int.reducePow, Int.reduceMul, vb0, vb1, vb2, vb3, vb4, vb5, vb6, vb7, f_scalar_whole, w1, w2, w3, w4, hne, List.getElem?_cons_zero, List.getElem?_cons_succ]
theorem whole_signed (n : Nat) (hn : n < 18446744073709551616) : C M 42 [.d (.str (Lib.itoa (sgn n))), .d (.bool true)] = some (.tup [.int .u64 n, .int .i64 0]) := by
  rcases sgn_or (n := (n : Int)) with ⟨h, e⟩ | ⟨h, e⟩
  · rw [e, Lib.itoa, if_neg (by omega), Int.toNat_natCast]
    exact whole_pos n (by omega)
  · rw [e, Lib.itoa, if_pos (by omega)]
    exact whole_neg _ n (by omega) (by omega)

/-! ### Patterns -/
def pt_st (s : List UInt8) (i x : Nat) : St := { env := [(0, .d (.str s)), (8, .d (.int .u64 x)), (9, .d (.int .i64 i))], bx := [] }
theorem pt_loop (c : UInt8) (ds : List UInt8) (hs : ds.length ≤ 16) (hp : ∀ x ∈ ds, 0 ≤ hexI x.toNat) :
    X M (.loop l_scalar_pattern_1) (pt_st (c :: ds) 1 0) = some (.exit 0, { env := [(0, .d (.str (c :: ds))), (8, .d (.int .u64 (hv ds : Nat))), (9, .d (.int .i64 (ds.length + 1 : Nat))), (25, .d (.bool false))], bx := [] }) := by
  have hlen : (c :: ds).length = ds.length + 1 := rfl
  refine loop_to (M := M) (b := l_scalar_pattern_1) (inv := fun i => pt_st (c :: ds) (i + 1) (hv (ds.take i))) (n := ds.length) (fun i hi => ?_) ?_ 0 (by omega)
  · have hg : (c :: ds)[i + 1]? = some ds[i] := by simp [hi]
    have h0 := hp ds[i] (by simp)
    have h1 := hexI_range ds[i].toNat
    have hnext : hv (ds.take (i + 1)) = hv (ds.take i) * 16 + (hexI ds[i].toNat).toNat := by
      rw [List.take_add_one, List.getElem?_eq_getElem hi]
      exact hv_snoc _ _
    have hx : hv (ds.take i) < 16 ^ 15 := by
      have h := hv_lt 16 (ds.take i) (by simp; omega)
      refine Nat.lt_of_lt_of_le h (Nat.pow_le_pow_right (by omega) ?_)
      simp; omega
    have dg := digit_spec ds[i].toNat ds[i].toNat_lt
    obtain ⟨D, hD⟩ := Int.eq_ofNat_of_zero_le h0
    have hor : bitsD .or .u64 ((hv (ds.take i) * 16 : Nat) : Int) (D : Int) = ((hv (ds.take i) * 16 + D : Nat) : Int) := by
      rw [or_u64 (by omega) (by omega), Nat.or_comm, show 16 = 2 ^ 4 from rfl, or_add (by omega), Nat.add_comm]
    rw [hD, Int.toNat_natCast] at hnext
    rw [hD] at dg h1
    simp only [hnext, n_quote_Digit] at dg ⊢
    clear hnext hD h0 hp
    generalize hv (ds.take i) = x at *
    generalize ds[i] = d at *
    generalize c :: ds = s at *
    simp -implicitDefEqProofs (maxSteps := 1000000) (disch := omega) only [↓Int.reduceLT, ↓Int.reduceLE, ↓Int.reduceEq, ↓Nat.reduceEqDiff, Nat.reduceBEq, ↓reduceIte, St.toRS, restrict, initEnv, plainArgs, reduceCtorEq, Nat.reduceEqDiff, Nat.reduceAdd, Nat.reduceMul, Int.reduceLT, Int.reduceLE, Int.reduceEq, Int.reduceNeg, Int.reduceAdd, Int.reduceToNat, Int.reduceNe, Nat.reduceSub, Int.reducePow, Int.reduceMul, vb0, vb1, vb2, vb3, vb4, vb5, vb6, vb7, l_scalar_pattern_1, pt_st, hg, dg, hor]
  · refine loop_exit ?_ (by simp)
    simp only [List.take_length]
    generalize hv ds = x at *
    generalize c :: ds = s at *
    simp -implicitDefEqProofs (maxSteps := 1000000) (disch := omega) only [↓Int.reduceLT, ↓Int.reduceLE, ↓Int.reduceEq, ↓Nat.reduceEqDiff, Nat.reduceBEq, ↓reduceIte, St.toRS, restrict, initEnv, plainArgs, reduceCtorEq, Nat.reduceEqDiff, Nat.reduceAdd, Nat.reduceMul, Int.reduceLT, Int.reduceLE, Int.reduceEq, Int.reduceNeg, Int.reduceAdd, Int.reduceToNat, Int.reduceNe, Nat.reduceSub, Int.reducePow, Int.reduceMul, vb0, vb1, vb2, vb3, vb4, vb5, vb6, vb7, l_scalar_pattern_1, pt_st, hlen]
theorem pattern_spec (c : UInt8) (ds : List UInt8) (many : Nat) (hl : ds.length = many) (hm : many ≤ 16) (hp : ∀ x ∈ ds, 0 ≤ hexI x.toNat) :
    C M 40 [.d (.str (c :: ds)), .d (.int .u8 c.toNat), .d (.int .i64 many)] = some (.tup [.int .u64 (hv ds : Nat), .int .i64 0]) := by
  rw [c_fn (sf := f_scalar_pattern) rfl rfl ⟨rfl, rfl⟩]
  have hlen : (c :: ds).length = many + 1 := by simp [hl]
  have w1 := pt_loop c ds (by omega) hp
  have hg : (c :: ds)[0]? = some c := rfl
  rw [hl] at w1
  simp only [pt_st, Int.cast_ofNat_Int] at w1
  generalize hv ds = x at *
  generalize c :: ds = s at *
  simp -implicitDefEqProofs (maxSteps := 1000000) (disch := omega) only [↓Int.reduceLT, ↓Int.reduceLE, ↓Int.reduceEq, ↓Nat.reduceEqDiff, Nat.reduceBEq, ↓reduceIte, St.toRS, restrict, initEnv, plainArgs, reduceCtorEq, Nat.reduceEqDiff, Nat.reduceAdd, Nat.reduceMul, Int.reduceLT, Int.reduceLE, Int.reduceEq, Int.reduceNeg, Int.reduceAdd, Int.reduceToNat, Int.reduceNe, Nat.reduceSub, Int.reducePow, Int.reduceMul, vb0, vb1, vb2, vb3, vb4, vb5, vb6, vb7, f_scalar_pattern, w1, hlen, hg]

theorem parse_1 (n : Nat) (b : List UInt8) (h1 : n < 18446744073709551616) (hm : mayE 1 n b [] = 0) :
    C M 11 [.d (.int .i64 1), .d (.str (textL 1 n b))] = some (.tup [valX 0 0 n [] [], .int .i64 0]) := by
  rw [c_fn (sf := f_scalar_Parse) rfl rfl ⟨rfl, rfl⟩]
  obtain ⟨rfl, -, hh⟩ := may_num hm (by decide)
  have w1 := may_spec 0 0 1 n [] [] (by omega) (by omega) (by simp) (by omega)
  rw [hm] at w1
  have w2 := known_spec 1
  have e2 : knownB 1 = true := by decide
  rw [e2] at w2
  have w4 := signed_spec 1
  have es : signedB 1 = false := by decide
  rw [es] at w4
  simp only [valX, bytesD_nil] at w1 ⊢
  have hn : n = 0 ∨ n = 1 := by simp [holdsB] at hh; omega
  rcases hn with rfl | rfl
  · have e : textL 1 0 [] = [102, 97, 108, 115, 101] := by simp [textL]
    have d1 : (([102, 97, 108, 115, 101] : List UInt8) = [116, 114, 117, 101]) = False := by decide
    rw [e]
    simp only [Int.cast_ofNat_Int] at w1 ⊢
    simp -implicitDefEqProofs (maxSteps := 1000000) (disch := omega) only [↓Int.reduceLT, ↓Int.reduceLE, ↓Int.reduceEq, ↓Nat.reduceEqDiff, Nat.reduceBEq, ↓reduceIte, St.toRS, restrict, initEnv, plainArgs, reduceCtorEq, Nat.reduceEqDiff, Nat.reduceAdd, Nat.reduceMul, Int.reduceLT, Int.reduceLE, Int.reduceEq, Int.reduceNeg, Int.reduceAdd, Int.reduceToNat, Int.reduceNe, Nat.reduceSub, Int.reducePow, Int.reduceMul, vb0, vb1, vb2, vb3, vb4, vb5, vb6, vb7, f_scalar_Parse, w1, w2, d1, sub, fill, setAt, List.set_cons_zero, List.set_cons_succ, List.getElem?_cons_zero, List.getElem?_cons_succ, List.drop_zero, List.take_succ_cons, List.take_zero]
  · have e : textL 1 1 [] = [116, 114, 117, 101] := by simp [textL]
    rw [e]
    simp only [Int.cast_ofNat_Int] at w1 ⊢
    simp -implicitDefEqProofs (maxSteps := 1000000) (disch := omega) only [↓Int.reduceLT, ↓Int.reduceLE, ↓Int.reduceEq, ↓Nat.reduceEqDiff, Nat.reduceBEq, ↓reduceIte, St.toRS, restrict, initEnv, plainArgs, reduceCtorEq, Nat.reduceEqDiff, Nat.reduceAdd, Nat.reduceMul, Int.reduceLT, Int.reduceLE, Int.reduceEq, Int.reduceNeg, Int.reduceAdd, Int.reduceToNat, Int.reduceNe, Nat.reduceSub, Int.reducePow, Int.reduceMul, vb0, vb1, vb2, vb3, vb4, vb5, vb6, vb7, f_scalar_Parse, w1, w2, sub, fill, setAt, List.set_cons_zero, List.set_cons_succ, List.getElem?_cons_zero, List.getElem?_cons_succ, List.drop_zero, List.take_succ_cons, List.take_zero]
theorem parse_2 (n : Nat) (b : List UInt8) (h1 : n < 18446744073709551616) (hm : mayE 2 n b [] = 0) :
    C M 11 [.d (.int .i64 2), .d (.str (textL 2 n b))] = some (.tup [valX 0 0 n [] [], .int .i64 0]) := by
  rw [c_fn (sf := f_scalar_Parse) rfl rfl ⟨rfl, rfl⟩]
  obtain ⟨rfl, -, hh⟩ := may_num hm (by decide)
  have w1 := may_spec 0 0 2 n [] [] (by omega) (by omega) (by simp) (by omega)
  rw [hm] at w1
  have w2 := known_spec 2
  have e2 : knownB 2 = true := by decide
  rw [e2] at w2
  have w4 := signed_spec 2
  have es : signedB 2 = true := by decide
  rw [es] at w4
  simp only [valX, bytesD_nil] at w1 ⊢
  have e : textL 2 n [] = Lib.itoa (sgn n) := by simp [textL, signedB]
  have w3 := whole_signed n h1
  rw [e]
  generalize Lib.itoa (sgn n) = P at *
  simp -implicitDefEqProofs (maxSteps := 1000000) (disch := omega) only [↓Int.reduceLT, ↓Int.reduceLE, ↓Int.reduceEq, ↓Nat.reduceEqDiff, Nat.reduceBEq, ↓reduceIte, St.toRS, restrict, initEnv, plainArgs, reduceCtorEq, Nat.reduceEqDiff, Nat.reduceAdd, Nat.reduceMul, Int.reduceLT, Int.reduceLE, Int.reduceEq, Int.reduceNeg, Int.reduceAdd, Int.reduceToNat, Int.reduceNe, Nat.reduceSub, Int.reducePow, Int.reduceMul, vb0, vb1, vb2, vb3, vb4, vb5, vb6, vb7, f_scalar_Parse, w1, w2, w3, w4, sub, fill, setAt, List.set_cons_zero, List.set_cons_succ, List.getElem?_cons_zero, List.getElem?_cons_succ, List.drop_zero, List.take_succ_cons, List.take_zero]
theorem parse_3 (n : Nat) (b : List UInt8) (h1 : n < 18446744073709551616) (hm : mayE 3 n b [] = 0) :
    C M 11 [.d (.int .i64 3), .d (.str (textL 3 n b))] = some (.tup [valX 0 0 n [] [], .int .i64 0]) := by
  rw [c_fn (sf := f_scalar_Parse) rfl rfl ⟨rfl, rfl⟩]
  obtain ⟨rfl, -, hh⟩ := may_num hm (by decide)
  have w1 := may_spec 0 0 3 n [] [] (by omega) (by omega) (by simp) (by omega)
  rw [hm] at w1
  have w2 := known_spec 3
  have e2 : knownB 3 = true := by decide
  rw [e2] at w2
  have w4 := signed_spec 3
  have es : signedB 3 = true := by decide
  rw [es] at w4
  simp only [valX, bytesD_nil] at w1 ⊢
  have e : textL 3 n [] = Lib.itoa (sgn n) := by simp [textL, signedB]
  have w3 := whole_signed n h1
  rw [e]
  generalize Lib.itoa (sgn n) = P at *
  simp -implicitDefEqProofs (maxSteps := 1000000) (disch := omega) only [↓Int.reduceLT, ↓Int.reduceLE, ↓Int.reduceEq, ↓Nat.reduceEqDiff, Nat.reduceBEq, ↓reduceIte, St.toRS, restrict, initEnv, plainArgs, reduceCtorEq, Nat.reduceEqDiff, Nat.reduceAdd, Nat.reduceMul, Int.reduceLT, Int.reduceLE, Int.reduceEq, Int.reduceNeg, Int.reduceAdd, Int.reduceToNat, Int.reduceNe, Nat.reduceSub, Int.reducePow, Int.reduceMul, vb0, vb1, vb2, vb3, vb4, vb5, vb6, vb7, f_scalar_Parse, w1, w2, w3, w4, sub, fill, setAt, List.set_cons_zero, List.set_cons_succ, List.getElem?_cons_zero, List.getElem?_cons_succ, List.drop_zero, List.take_succ_cons, List.take_zero]
theorem parse_4 (n : Nat) (b : List UInt8) (h1 : n < 18446744073709551616) (hm : mayE 4 n b [] = 0) :
    C M 11 [.d (.int .i64 4), .d (.str (textL 4 n b))] = some (.tup [valX 0 0 n [] [], .int .i64 0]) := by
  rw [c_fn (sf := f_scalar_Parse) rfl rfl ⟨rfl, rfl⟩]
  obtain ⟨rfl, -, hh⟩ := may_num hm (by decide)
  have w1 := may_spec 0 0 4 n [] [] (by omega) (by omega) (by simp) (by omega)
  rw [hm] at w1
  have w2 := known_spec 4
  have e2 : knownB 4 = true := by decide
  rw [e2] at w2
  have w4 := signed_spec 4
  have es : signedB 4 = false := by decide
  rw [es] at w4
  simp only [valX, bytesD_nil] at w1 ⊢
  have e : textL 4 n [] = Lib.decDigits n := by simp [textL, signedB]
  have w3 := whole_plain n h1
  rw [e]
  generalize Lib.decDigits n = P at *
  simp -implicitDefEqProofs (maxSteps := 1000000) (disch := omega) only [↓Int.reduceLT, ↓Int.reduceLE, ↓Int.reduceEq, ↓Nat.reduceEqDiff, Nat.reduceBEq, ↓reduceIte, St.toRS, restrict, initEnv, plainArgs, reduceCtorEq, Nat.reduceEqDiff, Nat.reduceAdd, Nat.reduceMul, Int.reduceLT, Int.reduceLE, Int.reduceEq, Int.reduceNeg, Int.reduceAdd, Int.reduceToNat, Int.reduceNe, Nat.reduceSub, Int.reducePow, Int.reduceMul, vb0, vb1, vb2, vb3, vb4, vb5, vb6, vb7, f_scalar_Parse, w1, w2, w3, w4, sub, fill, setAt, List.set_cons_zero, List.set_cons_succ, List.getElem?_cons_zero, List.getElem?_cons_succ, List.drop_zero, List.take_succ_cons, List.take_zero]
theorem parse_5 (n : Nat) (b : List UInt8) (h1 : n < 18446744073709551616) (hm : mayE 5 n b [] = 0) :
    C M 11 [.d (.int .i64 5), .d (.str (textL 5 n b))] = some (.tup [valX 0 0 n [] [], .int .i64 0]) := by
  rw [c_fn (sf := f_scalar_Parse) rfl rfl ⟨rfl, rfl⟩]
  obtain ⟨rfl, -, hh⟩ := may_num hm (by decide)
  have w1 := may_spec 0 0 5 n [] [] (by omega) (by omega) (by simp) (by omega)
  rw [hm] at w1
  have w2 := known_spec 5
  have e2 : knownB 5 = true := by decide
  rw [e2] at w2
  have w4 := signed_spec 5
  have es : signedB 5 = false := by decide
  rw [es] at w4
  simp only [valX, bytesD_nil] at w1 ⊢
  have e : textL 5 n [] = Lib.decDigits n := by simp [textL, signedB]
  have w3 := whole_plain n h1
  rw [e]
  generalize Lib.decDigits n = P at *
  simp -implicitDefEqProofs (maxSteps := 1000000) (disch := omega) only [↓Int.reduceLT, ↓Int.reduceLE, ↓Int.reduceEq, ↓Nat.reduceEqDiff, Nat.reduceBEq, ↓reduceIte, St.toRS, restrict, initEnv, plainArgs, reduceCtorEq, Nat.reduceEqDiff, Nat.reduceAdd, Nat.reduceMul, Int.reduceLT, Int.reduceLE, Int.reduceEq, Int.reduceNeg, Int.reduceAdd, Int.reduceToNat, Int.reduceNe, Nat.reduceSub, Int.reducePow, Int.reduceMul, vb0, vb1, vb2, vb3, vb4, vb5, vb6, vb7, f_scalar_Parse, w1, w2, w3, w4, sub, fill, setAt, List.set_cons_zero, List.set_cons_succ, List.getElem?_cons_zero, List.getElem?_cons_succ, List.drop_zero, List.take_succ_cons, List.take_zero]
theorem parse_6 (n : Nat) (b : List UInt8) (h1 : n < 18446744073709551616) (hm : mayE 6 n b [] = 0) :
    C M 11 [.d (.int .i64 6), .d (.str (textL 6 n b))] = some (.tup [valX 0 0 n [] [], .int .i64 0]) := by
  rw [c_fn (sf := f_scalar_Parse) rfl rfl ⟨rfl, rfl⟩]
  obtain ⟨rfl, -, hh⟩ := may_num hm (by decide)
  have w1 := may_spec 0 0 6 n [] [] (by omega) (by omega) (by simp) (by omega)
  rw [hm] at w1
  have w2 := known_spec 6
  have e2 : knownB 6 = true := by decide
  rw [e2] at w2
  have w4 := signed_spec 6
  have es : signedB 6 = true := by decide
  rw [es] at w4
  simp only [valX, bytesD_nil] at w1 ⊢
  have e : textL 6 n [] = Lib.itoa (sgn n) := by simp [textL, signedB]
  have w3 := whole_signed n h1
  rw [e]
  generalize Lib.itoa (sgn n) = P at *
  simp -implicitDefEqProofs (maxSteps := 1000000) (disch := omega) only [↓Int.reduceLT, ↓Int.reduceLE, ↓Int.reduceEq, ↓Nat.reduceEqDiff, Nat.reduceBEq, ↓reduceIte, St.toRS, restrict, initEnv, plainArgs, reduceCtorEq, Nat.reduceEqDiff, Nat.reduceAdd, Nat.reduceMul, Int.reduceLT, Int.reduceLE, Int.reduceEq, Int.reduceNeg, Int.reduceAdd, Int.reduceToNat, Int.reduceNe, Nat.reduceSub, Int.reducePow, Int.reduceMul, vb0, vb1, vb2, vb3, vb4, vb5, vb6, vb7, f_scalar_Parse, w1, w2, w3, w4, sub, fill, setAt, List.set_cons_zero, List.set_cons_succ, List.getElem?_cons_zero, List.getElem?_cons_succ, List.drop_zero, List.take_succ_cons, List.take_zero]
theorem parse_7 (n : Nat) (b : List UInt8) (h1 : n < 18446744073709551616) (hm : mayE 7 n b [] = 0) :
    C M 11 [.d (.int .i64 7), .d (.str (textL 7 n b))] = some (.tup [valX 0 0 n [] [], .int .i64 0]) := by
  rw [c_fn (sf := f_scalar_Parse) rfl rfl ⟨rfl, rfl⟩]
  obtain ⟨rfl, -, hh⟩ := may_num hm (by decide)
  have w1 := may_spec 0 0 7 n [] [] (by omega) (by omega) (by simp) (by omega)
  rw [hm] at w1
  have w2 := known_spec 7
  have e2 : knownB 7 = true := by decide
  rw [e2] at w2
  have w4 := signed_spec 7
  have es : signedB 7 = true := by decide
  rw [es] at w4
  simp only [valX, bytesD_nil] at w1 ⊢
  have e : textL 7 n [] = Lib.itoa (sgn n) := by simp [textL, signedB]
  have w3 := whole_signed n h1
  rw [e]
  generalize Lib.itoa (sgn n) = P at *
  simp -implicitDefEqProofs (maxSteps := 1000000) (disch := omega) only [↓Int.reduceLT, ↓Int.reduceLE, ↓Int.reduceEq, ↓Nat.reduceEqDiff, Nat.reduceBEq, ↓reduceIte, St.toRS, restrict, initEnv, plainArgs, reduceCtorEq, Nat.reduceEqDiff, Nat.reduceAdd, Nat.reduceMul, Int.reduceLT, Int.reduceLE, Int.reduceEq, Int.reduceNeg, Int.reduceAdd, Int.reduceToNat, Int.reduceNe, Nat.reduceSub, Int.reducePow, Int.reduceMul, vb0, vb1, vb2, vb3, vb4, vb5, vb6, vb7, f_scalar_Parse, w1, w2, w3, w4, sub, fill, setAt, List.set_cons_zero, List.set_cons_succ, List.getElem?_cons_zero, List.getElem?_cons_succ, List.drop_zero, List.take_succ_cons, List.take_zero]
theorem parse_8 (n : Nat) (b : List UInt8) (h1 : n < 18446744073709551616) (hm : mayE 8 n b [] = 0) :
    C M 11 [.d (.int .i64 8), .d (.str (textL 8 n b))] = some (.tup [valX 0 0 n [] [], .int .i64 0]) := by
  rw [c_fn (sf := f_scalar_Parse) rfl rfl ⟨rfl, rfl⟩]
  obtain ⟨rfl, -, hh⟩ := may_num hm (by decide)
  have w1 := may_spec 0 0 8 n [] [] (by omega) (by omega) (by simp) (by omega)
  rw [hm] at w1
  have w2 := known_spec 8
  have e2 : knownB 8 = true := by decide
  rw [e2] at w2
  have w4 := signed_spec 8
  have es : signedB 8 = false := by decide
  rw [es] at w4
  simp only [valX, bytesD_nil] at w1 ⊢
  have e : textL 8 n [] = Lib.decDigits n := by simp [textL, signedB]
  have w3 := whole_plain n h1
  rw [e]
  generalize Lib.decDigits n = P at *
  simp -implicitDefEqProofs (maxSteps := 1000000) (disch := omega) only [↓Int.reduceLT, ↓Int.reduceLE, ↓Int.reduceEq, ↓Nat.reduceEqDiff, Nat.reduceBEq, ↓reduceIte, St.toRS, restrict, initEnv, plainArgs, reduceCtorEq, Nat.reduceEqDiff, Nat.reduceAdd, Nat.reduceMul, Int.reduceLT, Int.reduceLE, Int.reduceEq, Int.reduceNeg, Int.reduceAdd, Int.reduceToNat, Int.reduceNe, Nat.reduceSub, Int.reducePow, Int.reduceMul, vb0, vb1, vb2, vb3, vb4, vb5, vb6, vb7, f_scalar_Parse, w1, w2, w3, w4, sub, fill, setAt, List.set_cons_zero, List.set_cons_succ, List.getElem?_cons_zero, List.getElem?_cons_succ, List.drop_zero, List.take_succ_cons, List.take_zero]
theorem parse_9 (n : Nat) (b : List UInt8) (h1 : n < 18446744073709551616) (hm : mayE 9 n b [] = 0) :
    C M 11 [.d (.int .i64 9), .d (.str (textL 9 n b))] = some (.tup [valX 0 0 n [] [], .int .i64 0]) := by
  rw [c_fn (sf := f_scalar_Parse) rfl rfl ⟨rfl, rfl⟩]
  obtain ⟨rfl, -, hh⟩ := may_num hm (by decide)
  have w1 := may_spec 0 0 9 n [] [] (by omega) (by omega) (by simp) (by omega)
  rw [hm] at w1
  have w2 := known_spec 9
  have e2 : knownB 9 = true := by decide
  rw [e2] at w2
  have w4 := signed_spec 9
  have es : signedB 9 = false := by decide
  rw [es] at w4
  simp only [valX, bytesD_nil] at w1 ⊢
  have e : textL 9 n [] = Lib.decDigits n := by simp [textL, signedB]
  have w3 := whole_plain n h1
  rw [e]
  generalize Lib.decDigits n = P at *
  simp -implicitDefEqProofs (maxSteps := 1000000) (disch := omega) only [↓Int.reduceLT, ↓Int.reduceLE, ↓Int.reduceEq, ↓Nat.reduceEqDiff, Nat.reduceBEq, ↓reduceIte, St.toRS, restrict, initEnv, plainArgs, reduceCtorEq, Nat.reduceEqDiff, Nat.reduceAdd, Nat.reduceMul, Int.reduceLT, Int.reduceLE, Int.reduceEq, Int.reduceNeg, Int.reduceAdd, Int.reduceToNat, Int.reduceNe, Nat.reduceSub, Int.reducePow, Int.reduceMul, vb0, vb1, vb2, vb3, vb4, vb5, vb6, vb7, f_scalar_Parse, w1, w2, w3, w4, sub, fill, setAt, List.set_cons_zero, List.set_cons_succ, List.getElem?_cons_zero, List.getElem?_cons_succ, List.drop_zero, List.take_succ_cons, List.take_zero]
theorem parse_10 (n : Nat) (b : List UInt8) (h1 : n < 18446744073709551616) (hm : mayE 10 n b [] = 0) :
    C M 11 [.d (.int .i64 10), .d (.str (textL 10 n b))] = some (.tup [valX 0 0 n [] [], .int .i64 0]) := by
  rw [c_fn (sf := f_scalar_Parse) rfl rfl ⟨rfl, rfl⟩]
  obtain ⟨rfl, -, hh⟩ := may_num hm (by decide)
  have w1 := may_spec 0 0 10 n [] [] (by omega) (by omega) (by simp) (by omega)
  rw [hm] at w1
  have w2 := known_spec 10
  have e2 : knownB 10 = true := by decide
  rw [e2] at w2
  have w4 := signed_spec 10
  have es : signedB 10 = true := by decide
  rw [es] at w4
  simp only [valX, bytesD_nil] at w1 ⊢
  have e : textL 10 n [] = Lib.itoa (sgn n) := by simp [textL, signedB]
  have w3 := whole_signed n h1
  rw [e]
  generalize Lib.itoa (sgn n) = P at *
  simp -implicitDefEqProofs (maxSteps := 1000000) (disch := omega) only [↓Int.reduceLT, ↓Int.reduceLE, ↓Int.reduceEq, ↓Nat.reduceEqDiff, Nat.reduceBEq, ↓reduceIte, St.toRS, restrict, initEnv, plainArgs, reduceCtorEq, Nat.reduceEqDiff, Nat.reduceAdd, Nat.reduceMul, Int.reduceLT, Int.reduceLE, Int.reduceEq, Int.reduceNeg, Int.reduceAdd, Int.reduceToNat, Int.reduceNe, Nat.reduceSub, Int.reducePow, Int.reduceMul, vb0, vb1, vb2, vb3, vb4, vb5, vb6, vb7, f_scalar_Parse, w1, w2, w3, w4, sub, fill, setAt, List.set_cons_zero, List.set_cons_succ, List.getElem?_cons_zero, List.getElem?_cons_succ, List.drop_zero, List.take_succ_cons, List.take_zero]
theorem parse_11 (n : Nat) (b : List UInt8) (h1 : n < 18446744073709551616) (hm : mayE 11 n b [] = 0) :
    C M 11 [.d (.int .i64 11), .d (.str (textL 11 n b))] = some (.tup [valX 0 0 n [] [], .int .i64 0]) := by
  rw [c_fn (sf := f_scalar_Parse) rfl rfl ⟨rfl, rfl⟩]
  obtain ⟨rfl, -, hh⟩ := may_num hm (by decide)
  have w1 := may_spec 0 0 11 n [] [] (by omega) (by omega) (by simp) (by omega)
  rw [hm] at w1
  have w2 := known_spec 11
  have e2 : knownB 11 = true := by decide
  rw [e2] at w2
  have w4 := signed_spec 11
  have es : signedB 11 = true := by decide
  rw [es] at w4
  simp only [valX, bytesD_nil] at w1 ⊢
  have e : textL 11 n [] = Lib.itoa (sgn n) := by simp [textL, signedB]
  have w3 := whole_signed n h1
  rw [e]
  generalize Lib.itoa (sgn n) = P at *
  simp -implicitDefEqProofs (maxSteps := 1000000) (disch := omega) only [↓Int.reduceLT, ↓Int.reduceLE, ↓Int.reduceEq, ↓Nat.reduceEqDiff, Nat.reduceBEq, ↓reduceIte, St.toRS, restrict, initEnv, plainArgs, reduceCtorEq, Nat.reduceEqDiff, Nat.reduceAdd, Nat.reduceMul, Int.reduceLT, Int.reduceLE, Int.reduceEq, Int.reduceNeg, Int.reduceAdd, Int.reduceToNat, Int.reduceNe, Nat.reduceSub, Int.reducePow, Int.reduceMul, vb0, vb1, vb2, vb3, vb4, vb5, vb6, vb7, f_scalar_Parse, w1, w2, w3, w4, sub, fill, setAt, List.set_cons_zero, List.set_cons_succ, List.getElem?_cons_zero, List.getElem?_cons_succ, List.drop_zero, List.take_succ_cons, List.take_zero]
theorem parse_12 (n : Nat) (b : List UInt8) (h1 : n < 18446744073709551616) (hm : mayE 12 n b [] = 0) :
    C M 11 [.d (.int .i64 12), .d (.str (textL 12 n b))] = some (.tup [valX 0 0 n [] [], .int .i64 0]) := by
  rw [c_fn (sf := f_scalar_Parse) rfl rfl ⟨rfl, rfl⟩]
  obtain ⟨rfl, -, hh⟩ := may_num hm (by decide)
  have w1 := may_spec 0 0 12 n [] [] (by omega) (by omega) (by simp) (by omega)
  rw [hm] at w1
  have w2 := known_spec 12
  have e2 : knownB 12 = true := by decide
  rw [e2] at w2
  have w4 := signed_spec 12
  have es : signedB 12 = false := by decide
  rw [es] at w4
  simp only [valX, bytesD_nil] at w1 ⊢
  have e : textL 12 n [] = 102 :: padL 8 n := by simp [textL]
  have hn : n < 4294967296 := by simp [holdsB] at hh; omega
  have w3 := pattern_spec 102 (padL 8 n) 8 (pad_len 8 n (by omega) (by omega)) (by omega) (pad_digit 8 n h1)
  rw [pad_val 8 n h1] at w3
  simp only [Int.cast_ofNat_Int, show ((102 : UInt8).toNat : Int) = 102 from rfl] at w3
  rw [e]
  generalize 102 :: padL 8 n = P at *
  simp -implicitDefEqProofs (maxSteps := 1000000) (disch := omega) only [↓Int.reduceLT, ↓Int.reduceLE, ↓Int.reduceEq, ↓Nat.reduceEqDiff, Nat.reduceBEq, ↓reduceIte, St.toRS, restrict, initEnv, plainArgs, reduceCtorEq, Nat.reduceEqDiff, Nat.reduceAdd, Nat.reduceMul, Int.reduceLT, Int.reduceLE, Int.reduceEq, Int.reduceNeg, Int.reduceAdd, Int.reduceToNat, Int.reduceNe, Nat.reduceSub, Int.reducePow, Int.reduceMul, vb0, vb1, vb2, vb3, vb4, vb5, vb6, vb7, f_scalar_Parse, w1, w2, w3, sub, fill, setAt, List.set_cons_zero, List.set_cons_succ, List.getElem?_cons_zero, List.getElem?_cons_succ, List.drop_zero, List.take_succ_cons, List.take_zero]
theorem parse_13 (n : Nat) (b : List UInt8) (h1 : n < 18446744073709551616) (hm : mayE 13 n b [] = 0) :
    C M 11 [.d (.int .i64 13), .d (.str (textL 13 n b))] = some (.tup [valX 0 0 n [] [], .int .i64 0]) := by
  rw [c_fn (sf := f_scalar_Parse) rfl rfl ⟨rfl, rfl⟩]
  obtain ⟨rfl, -, hh⟩ := may_num hm (by decide)
  have w1 := may_spec 0 0 13 n [] [] (by omega) (by omega) (by simp) (by omega)
  rw [hm] at w1
  have w2 := known_spec 13
  have e2 : knownB 13 = true := by decide
  rw [e2] at w2
  have w4 := signed_spec 13
  have es : signedB 13 = false := by decide
  rw [es] at w4
  simp only [valX, bytesD_nil] at w1 ⊢
  have e : textL 13 n [] = 100 :: padL 16 n := by simp [textL]
  have w3 := pattern_spec 100 (padL 16 n) 16 (pad_len 16 n (by omega) (by omega)) (by omega) (pad_digit 16 n h1)
  rw [pad_val 16 n h1] at w3
  simp only [Int.cast_ofNat_Int, show ((100 : UInt8).toNat : Int) = 100 from rfl] at w3
  rw [e]
  generalize 100 :: padL 16 n = P at *
  simp -implicitDefEqProofs (maxSteps := 1000000) (disch := omega) only [↓Int.reduceLT, ↓Int.reduceLE, ↓Int.reduceEq, ↓Nat.reduceEqDiff, Nat.reduceBEq, ↓reduceIte, St.toRS, restrict, initEnv, plainArgs, reduceCtorEq, Nat.reduceEqDiff, Nat.reduceAdd, Nat.reduceMul, Int.reduceLT, Int.reduceLE, Int.reduceEq, Int.reduceNeg, Int.reduceAdd, Int.reduceToNat, Int.reduceNe, Nat.reduceSub, Int.reducePow, Int.reduceMul, vb0, vb1, vb2, vb3, vb4, vb5, vb6, vb7, f_scalar_Parse, w1, w2, w3, sub, fill, setAt, List.set_cons_zero, List.set_cons_succ, List.getElem?_cons_zero, List.getElem?_cons_succ, List.drop_zero, List.take_succ_cons, List.take_zero]
theorem parse_14 (n : Nat) (b : List UInt8) (hb : b.length ≤ 2097152) (hm : mayE 14 n b [] = 0) (hl : (quoteL b).length ≤ 65536) :
    C M 11 [.d (.int .i64 14), .d (.str (textL 14 n b))] = some (.tup [valX 1 0 n b [], .int .i64 0]) := by
  rw [c_fn (sf := f_scalar_Parse) rfl rfl ⟨rfl, rfl⟩]
  have e : textL 14 n b = quoteL b := by simp [textL]
  have hn := (may_bytes hm (by decide) (by decide)).1
  rw [hn] at hm ⊢
  have w1 := may_spec 1 0 14 0 b [] (by omega) (by omega) hb (fun _ => rfl)
  rw [hm] at w1
  have w2 := known_spec 14
  have e2 : knownB 14 = true := by decide
  rw [e2] at w2
  have w3 := unquote_spec (quoteL b) (by omega)
  rw [unquote_back b hl] at w3
  simp only [n_quote_Unquote] at w3
  rw [e]
  simp only [valX] at w1 ⊢
  generalize quoteL b = P at *
  simp -implicitDefEqProofs (maxSteps := 1000000) (disch := omega) only [↓Int.reduceLT, ↓Int.reduceLE, ↓Int.reduceEq, ↓Nat.reduceEqDiff, Nat.reduceBEq, ↓reduceIte, St.toRS, restrict, initEnv, plainArgs, reduceCtorEq, Nat.reduceEqDiff, Nat.reduceAdd, Nat.reduceMul, Int.reduceLT, Int.reduceLE, Int.reduceEq, Int.reduceNeg, Int.reduceAdd, Int.reduceToNat, Int.reduceNe, Nat.reduceSub, Int.reducePow, Int.reduceMul, vb0, vb1, vb2, vb3, vb4, vb5, vb6, vb7, f_scalar_Parse, w1, w2, w3, sub, fill, setAt, List.set_cons_zero, List.set_cons_succ, List.getElem?_cons_zero, List.getElem?_cons_succ, List.drop_zero, List.take_succ_cons, List.take_zero]
theorem parse_14_long (n : Nat) (b : List UInt8) (hb : b.length ≤ 2097152) (hl : 65536 < (quoteL b).length) :
    C M 11 [.d (.int .i64 14), .d (.str (textL 14 n b))] = some (.tup [zeroV, .int .i64 1]) := by
  rw [c_fn (sf := f_scalar_Parse) rfl rfl ⟨rfl, rfl⟩]
  have e : textL 14 n b = quoteL b := by simp [textL]
  have w2 := known_spec 14
  have e2 : knownB 14 = true := by decide
  rw [e2] at w2
  have hfl := flat_len b
  have hql : (quoteL b).length ≤ 4 * b.length + 2 := by simp only [quoteL, List.length_cons, List.length_append, List.length_nil]; omega
  have w3 := unquote_spec (quoteL b) (by omega)
  have e3 : unquoteL (quoteL b) = ([], 1) := by simp [unquoteL, hl]
  rw [e3, bytesD_nil] at w3
  simp only [n_quote_Unquote] at w3
  rw [e]
  simp only [zeroV] at ⊢
  generalize quoteL b = P at *
  simp -implicitDefEqProofs (maxSteps := 1000000) (disch := omega) only [↓Int.reduceLT, ↓Int.reduceLE, ↓Int.reduceEq, ↓Nat.reduceEqDiff, Nat.reduceBEq, ↓reduceIte, St.toRS, restrict, initEnv, plainArgs, reduceCtorEq, Nat.reduceEqDiff, Nat.reduceAdd, Nat.reduceMul, Int.reduceLT, Int.reduceLE, Int.reduceEq, Int.reduceNeg, Int.reduceAdd, Int.reduceToNat, Int.reduceNe, Nat.reduceSub, Int.reducePow, Int.reduceMul, vb0, vb1, vb2, vb3, vb4, vb5, vb6, vb7, f_scalar_Parse, w2, w3, sub, fill, setAt, List.set_cons_zero, List.set_cons_succ, List.getElem?_cons_zero, List.getElem?_cons_succ, List.drop_zero, List.take_succ_cons, List.take_zero]
theorem parse_15 (n : Nat) (b : List UInt8) (hb : b.length ≤ 2097152) (hm : mayE 15 n b [] = 0) (hl : (quoteL b).length ≤ 65536) :
    C M 11 [.d (.int .i64 15), .d (.str (textL 15 n b))] = some (.tup [valX 1 0 n b [], .int .i64 0]) := by
  rw [c_fn (sf := f_scalar_Parse) rfl rfl ⟨rfl, rfl⟩]
  have e : textL 15 n b = quoteL b := by simp [textL]
  have hn := (may_bytes hm (by decide) (by decide)).1
  rw [hn] at hm ⊢
  have w1 := may_spec 1 0 15 0 b [] (by omega) (by omega) hb (fun _ => rfl)
  rw [hm] at w1
  have w2 := known_spec 15
  have e2 : knownB 15 = true := by decide
  rw [e2] at w2
  have w3 := unquote_spec (quoteL b) (by omega)
  rw [unquote_back b hl] at w3
  simp only [n_quote_Unquote] at w3
  rw [e]
  simp only [valX] at w1 ⊢
  generalize quoteL b = P at *
  simp -implicitDefEqProofs (maxSteps := 1000000) (disch := omega) only [↓Int.reduceLT, ↓Int.reduceLE, ↓Int.reduceEq, ↓Nat.reduceEqDiff, Nat.reduceBEq, ↓reduceIte, St.toRS, restrict, initEnv, plainArgs, reduceCtorEq, Nat.reduceEqDiff, Nat.reduceAdd, Nat.reduceMul, Int.reduceLT, Int.reduceLE, Int.reduceEq, Int.reduceNeg, Int.reduceAdd, Int.reduceToNat, Int.reduceNe, Nat.reduceSub, Int.reducePow, Int.reduceMul, vb0, vb1, vb2, vb3, vb4, vb5, vb6, vb7, f_scalar_Parse, w1, w2, w3, sub, fill, setAt, List.set_cons_zero, List.set_cons_succ, List.getElem?_cons_zero, List.getElem?_cons_succ, List.drop_zero, List.take_succ_cons, List.take_zero]
theorem parse_15_long (n : Nat) (b : List UInt8) (hb : b.length ≤ 2097152) (hl : 65536 < (quoteL b).length) :
    C M 11 [.d (.int .i64 15), .d (.str (textL 15 n b))] = some (.tup [zeroV, .int .i64 1]) := by
  rw [c_fn (sf := f_scalar_Parse) rfl rfl ⟨rfl, rfl⟩]
  have e : textL 15 n b = quoteL b := by simp [textL]
  have w2 := known_spec 15
  have e2 : knownB 15 = true := by decide
  rw [e2] at w2
  have hfl := flat_len b
  have hql : (quoteL b).length ≤ 4 * b.length + 2 := by simp only [quoteL, List.length_cons, List.length_append, List.length_nil]; omega
  have w3 := unquote_spec (quoteL b) (by omega)
  have e3 : unquoteL (quoteL b) = ([], 1) := by simp [unquoteL, hl]
  rw [e3, bytesD_nil] at w3
  simp only [n_quote_Unquote] at w3
  rw [e]
  simp only [zeroV] at ⊢
  generalize quoteL b = P at *
  simp -implicitDefEqProofs (maxSteps := 1000000) (disch := omega) only [↓Int.reduceLT, ↓Int.reduceLE, ↓Int.reduceEq, ↓Nat.reduceEqDiff, Nat.reduceBEq, ↓reduceIte, St.toRS, restrict, initEnv, plainArgs, reduceCtorEq, Nat.reduceEqDiff, Nat.reduceAdd, Nat.reduceMul, Int.reduceLT, Int.reduceLE, Int.reduceEq, Int.reduceNeg, Int.reduceAdd, Int.reduceToNat, Int.reduceNe, Nat.reduceSub, Int.reducePow, Int.reduceMul, vb0, vb1, vb2, vb3, vb4, vb5, vb6, vb7, f_scalar_Parse, w2, w3, sub, fill, setAt, List.set_cons_zero, List.set_cons_succ, List.getElem?_cons_zero, List.getElem?_cons_succ, List.drop_zero, List.take_succ_cons, List.take_zero]
theorem parse_16 (n : Nat) (b : List UInt8) (h1 : n < 18446744073709551616) (hm : mayE 16 n b [] = 0) :
    C M 11 [.d (.int .i64 16), .d (.str (textL 16 n b))] = some (.tup [valX 0 0 n [] [], .int .i64 0]) := by
  rw [c_fn (sf := f_scalar_Parse) rfl rfl ⟨rfl, rfl⟩]
  obtain ⟨rfl, -, hh⟩ := may_num hm (by decide)
  have w1 := may_spec 0 0 16 n [] [] (by omega) (by omega) (by simp) (by omega)
  rw [hm] at w1
  have w2 := known_spec 16
  have e2 : knownB 16 = true := by decide
  rw [e2] at w2
  have w4 := signed_spec 16
  have es : signedB 16 = false := by decide
  rw [es] at w4
  simp only [valX, bytesD_nil] at w1 ⊢
  have e : textL 16 n [] = Lib.decDigits n := by simp [textL, signedB]
  have w3 := whole_plain n h1
  rw [e]
  generalize Lib.decDigits n = P at *
  simp -implicitDefEqProofs (maxSteps := 1000000) (disch := omega) only [↓Int.reduceLT, ↓Int.reduceLE, ↓Int.reduceEq, ↓Nat.reduceEqDiff, Nat.reduceBEq, ↓reduceIte, St.toRS, restrict, initEnv, plainArgs, reduceCtorEq, Nat.reduceEqDiff, Nat.reduceAdd, Nat.reduceMul, Int.reduceLT, Int.reduceLE, Int.reduceEq, Int.reduceNeg, Int.reduceAdd, Int.reduceToNat, Int.reduceNe, Nat.reduceSub, Int.reducePow, Int.reduceMul, vb0, vb1, vb2, vb3, vb4, vb5, vb6, vb7, f_scalar_Parse, w1, w2, w3, w4, sub, fill, setAt, List.set_cons_zero, List.set_cons_succ, List.getElem?_cons_zero, List.getElem?_cons_succ, List.drop_zero, List.take_succ_cons, List.take_zero]
end Go.Proofs.YtedncpnkbpbchaaGreatDoor
