/-
  The law ScalarBack, over data.
-/
import Derived.Test.YtedncpnkbpbchaaGreatDoorPrs
set_option linter.unusedVariables false
set_option linter.unusedSimpArgs false
set_option maxRecDepth 100000
set_option maxHeartbeats 16000000
namespace Go.Proofs.YtedncpnkbpbchaaGreatDoor
open Go.Vi

theorem told_v (s s' t' : Nat) (n : Int) (b : List UInt8) :
    C M 12 [.d (valX s 0 n b []), .d (.int .i64 0), .d (valX s' t' n b []), .d (.int .i64 0)] = some (.d (.bool true)) := by
  rw [c_fn (sf := f_law3_told) rfl rfl ⟨rfl, rfl⟩]
  have w := sameX_spec s 0 s' t' n n b b [] []
  have hs : sameB n b [] n b [] = true := by simp [sameB]
  rw [hs] at w
  simp only [valX] at w ⊢
  simp -implicitDefEqProofs (maxSteps := 1000000) (disch := omega) only [↓Int.reduceLT, ↓Int.reduceLE, ↓Int.reduceEq, ↓Nat.reduceEqDiff, Nat.reduceBEq, ↓reduceIte, St.toRS, restrict, initEnv, plainArgs, reduceCtorEq, Nat.reduceEqDiff, Nat.reduceAdd, Nat.reduceMul, Int.reduceLT, Int.reduceLE, Int.reduceEq, Int.reduceNeg, Int.reduceAdd, Int.reduceToNat, Int.reduceNe, Nat.reduceSub, Int.reducePow, Int.reduceMul, vb0, vb1, vb2, vb3, vb4, vb5, vb6, vb7, f_law3_told, w, sub, fill, setAt, List.set_cons_zero, List.set_cons_succ, List.getElem?_cons_zero, List.getElem?_cons_succ, List.drop_zero, List.take_succ_cons, List.take_zero]
theorem numO_back {k : Int} {m n t : Nat} (h : fixN k m = n) (hh : holdsB k n = true) : numO k (m, t, 0) = .tup [valX 0 0 n [] [], .int .i64 t, .int .i64 0] := by
  simp only [numO, h, hh]
  rfl
theorem put_len (k : Int) (n : Nat) (b : List UInt8) : (putL k n b).length ≤ b.length + 10 := by
  have h1 := vb_len b.length
  have h2 := vb_len n
  have h3 := vb_len (zz (sgn n))
  simp only [putL]
  split
  · simp; omega
  split
  · rw [wordL_len]; omega
  split
  · rw [wordL_len]; omega
  split <;> omega
theorem rd_num (s n : Nat) (r : List UInt8) (h : n < 2 ^ (8 * s)) : rdP (wordL s n ++ r) 0 s = (n, s, 0) := by
  rw [rd_back, Nat.mod_eq_of_lt h]
theorem low32 (n : Nat) (h1 : n < 18446744073709551616) (hh : holdsB 10 n = true) : IntKind.u64.wrap (IntKind.i32.wrap ((n % 4294967296 : Nat) : Int)) = n := by
  have hs : -2147483648 ≤ sgn n ∧ sgn n ≤ 2147483647 := by simpa [holdsB] using hh
  obtain ⟨z, hz, a, b⟩ := wrap_low (n := ((n % 4294967296 : Nat) : Int))
  have hsg := sgn_or (n := (n : Int))
  have e : IntKind.i32.wrap ((n % 4294967296 : Nat) : Int) = sgn n := by omega
  rw [e]
  exact wrap_sgn_back (by omega) (by omega)

theorem getb_1 (n : Nat) (b r : List UInt8) (h1 : n < 18446744073709551616) (hm : mayE 1 n b [] = 0) (hb : b.length + r.length + 10 ≤ 2097152) :
    ∃ s, C M 9 [.d (.int .i64 1), .d (.slice 1 (bytesD (putL 1 n b ++ r))), .d (.int .i64 0)] = some (.tup [valX s 0 n b [], .int .i64 (putL 1 n b).length, .int .i64 0]) := by
  have hl := put_len 1 n b
  have g := get_1 (putL 1 n b ++ r) 0 (by simp; omega) (by omega)
  simp only [Int.cast_ofNat_Int] at g
  obtain ⟨rfl, -, hh⟩ := may_num hm (by decide)
  refine ⟨0, ?_⟩
  rw [g]
  refine congrArg some ?_
  have e : putL 1 n [] = vb n := by simp [putL, wireI]
  have er : ∀ b, rawN 1 b 0 = gvF b 0 10 0 0 := by intro b; simp [rawN, wireI]
  rw [e, er, gv_back _ h1]
  exact numO_back (by simp [fixN]) hh
theorem getb_2 (n : Nat) (b r : List UInt8) (h1 : n < 18446744073709551616) (hm : mayE 2 n b [] = 0) (hb : b.length + r.length + 10 ≤ 2097152) :
    ∃ s, C M 9 [.d (.int .i64 2), .d (.slice 1 (bytesD (putL 2 n b ++ r))), .d (.int .i64 0)] = some (.tup [valX s 0 n b [], .int .i64 (putL 2 n b).length, .int .i64 0]) := by
  have hl := put_len 2 n b
  have g := get_2 (putL 2 n b ++ r) 0 (by simp; omega) (by omega)
  simp only [Int.cast_ofNat_Int] at g
  obtain ⟨rfl, -, hh⟩ := may_num hm (by decide)
  refine ⟨0, ?_⟩
  rw [g]
  refine congrArg some ?_
  have e : putL 2 n [] = vb n := by simp [putL, wireI]
  have er : ∀ b, rawN 2 b 0 = gvF b 0 10 0 0 := by intro b; simp [rawN, wireI]
  rw [e, er, gv_back _ h1]
  exact numO_back (by simp [fixN]) hh
theorem getb_3 (n : Nat) (b r : List UInt8) (h1 : n < 18446744073709551616) (hm : mayE 3 n b [] = 0) (hb : b.length + r.length + 10 ≤ 2097152) :
    ∃ s, C M 9 [.d (.int .i64 3), .d (.slice 1 (bytesD (putL 3 n b ++ r))), .d (.int .i64 0)] = some (.tup [valX s 0 n b [], .int .i64 (putL 3 n b).length, .int .i64 0]) := by
  have hl := put_len 3 n b
  have g := get_3 (putL 3 n b ++ r) 0 (by simp; omega) (by omega)
  simp only [Int.cast_ofNat_Int] at g
  obtain ⟨rfl, -, hh⟩ := may_num hm (by decide)
  refine ⟨0, ?_⟩
  rw [g]
  refine congrArg some ?_
  have e : putL 3 n [] = vb n := by simp [putL, wireI]
  have er : ∀ b, rawN 3 b 0 = gvF b 0 10 0 0 := by intro b; simp [rawN, wireI]
  rw [e, er, gv_back _ h1]
  exact numO_back (by simp [fixN]) hh
theorem getb_4 (n : Nat) (b r : List UInt8) (h1 : n < 18446744073709551616) (hm : mayE 4 n b [] = 0) (hb : b.length + r.length + 10 ≤ 2097152) :
    ∃ s, C M 9 [.d (.int .i64 4), .d (.slice 1 (bytesD (putL 4 n b ++ r))), .d (.int .i64 0)] = some (.tup [valX s 0 n b [], .int .i64 (putL 4 n b).length, .int .i64 0]) := by
  have hl := put_len 4 n b
  have g := get_4 (putL 4 n b ++ r) 0 (by simp; omega) (by omega)
  simp only [Int.cast_ofNat_Int] at g
  obtain ⟨rfl, -, hh⟩ := may_num hm (by decide)
  refine ⟨0, ?_⟩
  rw [g]
  refine congrArg some ?_
  have e : putL 4 n [] = vb n := by simp [putL, wireI]
  have er : ∀ b, rawN 4 b 0 = gvF b 0 10 0 0 := by intro b; simp [rawN, wireI]
  rw [e, er, gv_back _ h1]
  exact numO_back (by simp [fixN]) hh
theorem getb_5 (n : Nat) (b r : List UInt8) (h1 : n < 18446744073709551616) (hm : mayE 5 n b [] = 0) (hb : b.length + r.length + 10 ≤ 2097152) :
    ∃ s, C M 9 [.d (.int .i64 5), .d (.slice 1 (bytesD (putL 5 n b ++ r))), .d (.int .i64 0)] = some (.tup [valX s 0 n b [], .int .i64 (putL 5 n b).length, .int .i64 0]) := by
  have hl := put_len 5 n b
  have g := get_5 (putL 5 n b ++ r) 0 (by simp; omega) (by omega)
  simp only [Int.cast_ofNat_Int] at g
  obtain ⟨rfl, -, hh⟩ := may_num hm (by decide)
  refine ⟨0, ?_⟩
  rw [g]
  refine congrArg some ?_
  have e : putL 5 n [] = vb n := by simp [putL, wireI]
  have er : ∀ b, rawN 5 b 0 = gvF b 0 10 0 0 := by intro b; simp [rawN, wireI]
  rw [e, er, gv_back _ h1]
  exact numO_back (by simp [fixN]) hh
theorem getb_6 (n : Nat) (b r : List UInt8) (h1 : n < 18446744073709551616) (hm : mayE 6 n b [] = 0) (hb : b.length + r.length + 10 ≤ 2097152) :
    ∃ s, C M 9 [.d (.int .i64 6), .d (.slice 1 (bytesD (putL 6 n b ++ r))), .d (.int .i64 0)] = some (.tup [valX s 0 n b [], .int .i64 (putL 6 n b).length, .int .i64 0]) := by
  have hl := put_len 6 n b
  have g := get_6 (putL 6 n b ++ r) 0 (by simp; omega) (by omega)
  simp only [Int.cast_ofNat_Int] at g
  obtain ⟨rfl, -, hh⟩ := may_num hm (by decide)
  refine ⟨0, ?_⟩
  rw [g]
  refine congrArg some ?_
  have e : putL 6 n [] = vb (zz (sgn n)) := by simp [putL, wireI]
  have er : ∀ b, rawN 6 b 0 = gvF b 0 10 0 0 := by intro b; simp [rawN, wireI]
  have sl := sgn_lo h1
  rw [e, er, gv_back _ (zz_lt sl.1 sl.2)]
  have ef : fixN 6 (zz (sgn n)) = IntKind.u64.wrap (zag (zz (sgn n))) := by simp [fixN]
  exact numO_back (by rw [ef, zag_zz]; exact wrap_sgn_back (by omega) (by omega)) hh
theorem getb_7 (n : Nat) (b r : List UInt8) (h1 : n < 18446744073709551616) (hm : mayE 7 n b [] = 0) (hb : b.length + r.length + 10 ≤ 2097152) :
    ∃ s, C M 9 [.d (.int .i64 7), .d (.slice 1 (bytesD (putL 7 n b ++ r))), .d (.int .i64 0)] = some (.tup [valX s 0 n b [], .int .i64 (putL 7 n b).length, .int .i64 0]) := by
  have hl := put_len 7 n b
  have g := get_7 (putL 7 n b ++ r) 0 (by simp; omega) (by omega)
  simp only [Int.cast_ofNat_Int] at g
  obtain ⟨rfl, -, hh⟩ := may_num hm (by decide)
  refine ⟨0, ?_⟩
  rw [g]
  refine congrArg some ?_
  have e : putL 7 n [] = vb (zz (sgn n)) := by simp [putL, wireI]
  have er : ∀ b, rawN 7 b 0 = gvF b 0 10 0 0 := by intro b; simp [rawN, wireI]
  have sl := sgn_lo h1
  rw [e, er, gv_back _ (zz_lt sl.1 sl.2)]
  have ef : fixN 7 (zz (sgn n)) = IntKind.u64.wrap (zag (zz (sgn n))) := by simp [fixN]
  exact numO_back (by rw [ef, zag_zz]; exact wrap_sgn_back (by omega) (by omega)) hh
theorem getb_8 (n : Nat) (b r : List UInt8) (h1 : n < 18446744073709551616) (hm : mayE 8 n b [] = 0) (hb : b.length + r.length + 10 ≤ 2097152) :
    ∃ s, C M 9 [.d (.int .i64 8), .d (.slice 1 (bytesD (putL 8 n b ++ r))), .d (.int .i64 0)] = some (.tup [valX s 0 n b [], .int .i64 (putL 8 n b).length, .int .i64 0]) := by
  have hl := put_len 8 n b
  have g := get_8 (putL 8 n b ++ r) 0 (by simp; omega) (by omega)
  simp only [Int.cast_ofNat_Int] at g
  obtain ⟨rfl, -, hh⟩ := may_num hm (by decide)
  refine ⟨0, ?_⟩
  rw [g]
  refine congrArg some ?_
  have e : putL 8 n [] = wordL 4 n := by simp [putL, wireI]
  have er : rawN 8 (wordL 4 n ++ r) 0 = rdP (wordL 4 n ++ r) 0 4 := by simp [rawN, wireI]
  have hn : n < 4294967296 := by simp [holdsB] at hh; omega
  rw [e, er, rd_num 4 n r (by omega), wordL_len]
  exact numO_back (by simp [fixN]) hh
theorem getb_9 (n : Nat) (b r : List UInt8) (h1 : n < 18446744073709551616) (hm : mayE 9 n b [] = 0) (hb : b.length + r.length + 10 ≤ 2097152) :
    ∃ s, C M 9 [.d (.int .i64 9), .d (.slice 1 (bytesD (putL 9 n b ++ r))), .d (.int .i64 0)] = some (.tup [valX s 0 n b [], .int .i64 (putL 9 n b).length, .int .i64 0]) := by
  have hl := put_len 9 n b
  have g := get_9 (putL 9 n b ++ r) 0 (by simp; omega) (by omega)
  simp only [Int.cast_ofNat_Int] at g
  obtain ⟨rfl, -, hh⟩ := may_num hm (by decide)
  refine ⟨0, ?_⟩
  rw [g]
  refine congrArg some ?_
  have e : putL 9 n [] = wordL 8 n := by simp [putL, wireI]
  have er : rawN 9 (wordL 8 n ++ r) 0 = rdP (wordL 8 n ++ r) 0 8 := by simp [rawN, wireI]
  rw [e, er, rd_num 8 n r (by omega), wordL_len]
  exact numO_back (by simp [fixN]) hh
theorem getb_10 (n : Nat) (b r : List UInt8) (h1 : n < 18446744073709551616) (hm : mayE 10 n b [] = 0) (hb : b.length + r.length + 10 ≤ 2097152) :
    ∃ s, C M 9 [.d (.int .i64 10), .d (.slice 1 (bytesD (putL 10 n b ++ r))), .d (.int .i64 0)] = some (.tup [valX s 0 n b [], .int .i64 (putL 10 n b).length, .int .i64 0]) := by
  have hl := put_len 10 n b
  have g := get_10 (putL 10 n b ++ r) 0 (by simp; omega) (by omega)
  simp only [Int.cast_ofNat_Int] at g
  obtain ⟨rfl, -, hh⟩ := may_num hm (by decide)
  refine ⟨0, ?_⟩
  rw [g]
  refine congrArg some ?_
  have e : putL 10 n [] = wordL 4 n := by simp [putL, wireI]
  have er : rawN 10 (wordL 4 n ++ r) 0 = rdP (wordL 4 n ++ r) 0 4 := by simp [rawN, wireI]
  rw [e, er, rd_back, wordL_len]
  exact numO_back (by simp only [fixN]; exact low32 n h1 hh) hh
theorem getb_11 (n : Nat) (b r : List UInt8) (h1 : n < 18446744073709551616) (hm : mayE 11 n b [] = 0) (hb : b.length + r.length + 10 ≤ 2097152) :
    ∃ s, C M 9 [.d (.int .i64 11), .d (.slice 1 (bytesD (putL 11 n b ++ r))), .d (.int .i64 0)] = some (.tup [valX s 0 n b [], .int .i64 (putL 11 n b).length, .int .i64 0]) := by
  have hl := put_len 11 n b
  have g := get_11 (putL 11 n b ++ r) 0 (by simp; omega) (by omega)
  simp only [Int.cast_ofNat_Int] at g
  obtain ⟨rfl, -, hh⟩ := may_num hm (by decide)
  refine ⟨0, ?_⟩
  rw [g]
  refine congrArg some ?_
  have e : putL 11 n [] = wordL 8 n := by simp [putL, wireI]
  have er : rawN 11 (wordL 8 n ++ r) 0 = rdP (wordL 8 n ++ r) 0 8 := by simp [rawN, wireI]
  rw [e, er, rd_num 8 n r (by omega), wordL_len]
  exact numO_back (by simp [fixN]) hh
theorem getb_12 (n : Nat) (b r : List UInt8) (h1 : n < 18446744073709551616) (hm : mayE 12 n b [] = 0) (hb : b.length + r.length + 10 ≤ 2097152) :
    ∃ s, C M 9 [.d (.int .i64 12), .d (.slice 1 (bytesD (putL 12 n b ++ r))), .d (.int .i64 0)] = some (.tup [valX s 0 n b [], .int .i64 (putL 12 n b).length, .int .i64 0]) := by
  have hl := put_len 12 n b
  have g := get_12 (putL 12 n b ++ r) 0 (by simp; omega) (by omega)
  simp only [Int.cast_ofNat_Int] at g
  obtain ⟨rfl, -, hh⟩ := may_num hm (by decide)
  refine ⟨0, ?_⟩
  rw [g]
  refine congrArg some ?_
  have e : putL 12 n [] = wordL 4 n := by simp [putL, wireI]
  have er : rawN 12 (wordL 4 n ++ r) 0 = rdP (wordL 4 n ++ r) 0 4 := by simp [rawN, wireI]
  have hn : n < 4294967296 := by simp [holdsB] at hh; omega
  rw [e, er, rd_num 4 n r (by omega), wordL_len]
  exact numO_back (by simp [fixN]) hh
theorem getb_13 (n : Nat) (b r : List UInt8) (h1 : n < 18446744073709551616) (hm : mayE 13 n b [] = 0) (hb : b.length + r.length + 10 ≤ 2097152) :
    ∃ s, C M 9 [.d (.int .i64 13), .d (.slice 1 (bytesD (putL 13 n b ++ r))), .d (.int .i64 0)] = some (.tup [valX s 0 n b [], .int .i64 (putL 13 n b).length, .int .i64 0]) := by
  have hl := put_len 13 n b
  have g := get_13 (putL 13 n b ++ r) 0 (by simp; omega) (by omega)
  simp only [Int.cast_ofNat_Int] at g
  obtain ⟨rfl, -, hh⟩ := may_num hm (by decide)
  refine ⟨0, ?_⟩
  rw [g]
  refine congrArg some ?_
  have e : putL 13 n [] = wordL 8 n := by simp [putL, wireI]
  have er : rawN 13 (wordL 8 n ++ r) 0 = rdP (wordL 8 n ++ r) 0 8 := by simp [rawN, wireI]
  rw [e, er, rd_num 8 n r (by omega), wordL_len]
  exact numO_back (by simp [fixN]) hh
theorem getb_14 (n : Nat) (b r : List UInt8) (h1 : n < 18446744073709551616) (hm : mayE 14 n b [] = 0) (hb : b.length + r.length + 10 ≤ 2097152) :
    ∃ s, C M 9 [.d (.int .i64 14), .d (.slice 1 (bytesD (putL 14 n b ++ r))), .d (.int .i64 0)] = some (.tup [valX s 0 n b [], .int .i64 (putL 14 n b).length, .int .i64 0]) := by
  have hl := put_len 14 n b
  have g := get_14 (putL 14 n b ++ r) 0 (by simp; omega) (by omega)
  simp only [Int.cast_ofNat_Int] at g
  have e : putL 14 n b = vb b.length ++ b := by simp [putL, wireI]
  have hn := (may_bytes hm (by decide) (by decide)).1
  refine ⟨1, ?_⟩
  rw [hn]
  rw [g]
  rw [e] at hl ⊢
  rw [ck_back b r (by omega)]
  simp only [ckO]
  have ht : txtB b = true := by
    rw [mayE] at hm
    have h2 : knownB 14 = true := by decide
    simp only [h2, Bool.true_eq_false, if_false] at hm
    cases hf : fitsB 14 n b [] with
    | false => rw [if_pos hf] at hm; cases hm
    | true =>
      rw [hf] at hm
      cases ht : txtB b with
      | true => rfl
      | false => rw [ht] at hm; simp at hm
  rw [if_neg (by simp), if_neg (by simp [ht])]
  rfl
theorem getb_15 (n : Nat) (b r : List UInt8) (h1 : n < 18446744073709551616) (hm : mayE 15 n b [] = 0) (hb : b.length + r.length + 10 ≤ 2097152) :
    ∃ s, C M 9 [.d (.int .i64 15), .d (.slice 1 (bytesD (putL 15 n b ++ r))), .d (.int .i64 0)] = some (.tup [valX s 0 n b [], .int .i64 (putL 15 n b).length, .int .i64 0]) := by
  have hl := put_len 15 n b
  have g := get_15 (putL 15 n b ++ r) 0 (by simp; omega) (by omega)
  simp only [Int.cast_ofNat_Int] at g
  have e : putL 15 n b = vb b.length ++ b := by simp [putL, wireI]
  have hn := (may_bytes hm (by decide) (by decide)).1
  refine ⟨1, ?_⟩
  rw [hn]
  rw [g]
  rw [e] at hl ⊢
  rw [ck_back b r (by omega)]
  simp only [ckO]
  rw [if_neg (by simp), if_neg (by simp)]
  rfl
theorem getb_16 (n : Nat) (b r : List UInt8) (h1 : n < 18446744073709551616) (hm : mayE 16 n b [] = 0) (hb : b.length + r.length + 10 ≤ 2097152) :
    ∃ s, C M 9 [.d (.int .i64 16), .d (.slice 1 (bytesD (putL 16 n b ++ r))), .d (.int .i64 0)] = some (.tup [valX s 0 n b [], .int .i64 (putL 16 n b).length, .int .i64 0]) := by
  have hl := put_len 16 n b
  have g := get_16 (putL 16 n b ++ r) 0 (by simp; omega) (by omega)
  simp only [Int.cast_ofNat_Int] at g
  obtain ⟨rfl, -, hh⟩ := may_num hm (by decide)
  refine ⟨0, ?_⟩
  rw [g]
  refine congrArg some ?_
  have e : putL 16 n [] = vb n := by simp [putL, wireI]
  have er : ∀ b, rawN 16 b 0 = gvF b 0 10 0 0 := by intro b; simp [rawN, wireI]
  rw [e, er, gv_back _ h1]
  exact numO_back (by simp [fixN]) hh
theorem dec_short (n : Nat) (h : n < 18446744073709551616) : (Lib.decDigits n).length ≤ 65536 := Nat.le_trans (dec_len20 n h) (by omega)
theorem itoa_short (z : Int) (h0 : -9223372036854775808 ≤ z) (h1 : z ≤ 9223372036854775807) : (Lib.itoa z).length ≤ 65536 := by
  simp only [Lib.itoa]
  split
  · have := dec_len20 z.natAbs (by omega)
    simp; omega
  · exact dec_short _ (by omega)
/-- Parse of a value's text. -/
def ParseBack (k : Int) (n : Nat) (b : List UInt8) : Prop :=
  ((textL k n b).length ≤ 65536 ∧ ∃ s, C M 11 [.d (.int .i64 k), .d (.str (textL k n b))] = some (.tup [valX s 0 n b [], .int .i64 0])) ∨
  (65536 < (textL k n b).length ∧ C M 11 [.d (.int .i64 k), .d (.str (textL k n b))] = some (.tup [zeroV, .int .i64 1]))
theorem parseb_1 (n : Nat) (b : List UInt8) (h1 : n < 18446744073709551616) (hb : b.length ≤ 2097152) (hm : mayE 1 n b [] = 0) : ParseBack 1 n b := by
  have p := parse_1 n b h1 hm
  obtain ⟨rfl, -, hh⟩ := may_num hm (by decide)
  refine Or.inl ⟨?_, 0, p⟩
  by_cases h : n = 1
  · simp [textL, h]
  · simp [textL, h]
theorem parseb_2 (n : Nat) (b : List UInt8) (h1 : n < 18446744073709551616) (hb : b.length ≤ 2097152) (hm : mayE 2 n b [] = 0) : ParseBack 2 n b := by
  have p := parse_2 n b h1 hm
  obtain ⟨rfl, -, hh⟩ := may_num hm (by decide)
  refine Or.inl ⟨?_, 0, p⟩
  have e : textL 2 n [] = Lib.itoa (sgn n) := by simp [textL, signedB]
  have sl := sgn_lo h1
  rw [e]
  exact itoa_short _ sl.1 sl.2
theorem parseb_3 (n : Nat) (b : List UInt8) (h1 : n < 18446744073709551616) (hb : b.length ≤ 2097152) (hm : mayE 3 n b [] = 0) : ParseBack 3 n b := by
  have p := parse_3 n b h1 hm
  obtain ⟨rfl, -, hh⟩ := may_num hm (by decide)
  refine Or.inl ⟨?_, 0, p⟩
  have e : textL 3 n [] = Lib.itoa (sgn n) := by simp [textL, signedB]
  have sl := sgn_lo h1
  rw [e]
  exact itoa_short _ sl.1 sl.2
theorem parseb_4 (n : Nat) (b : List UInt8) (h1 : n < 18446744073709551616) (hb : b.length ≤ 2097152) (hm : mayE 4 n b [] = 0) : ParseBack 4 n b := by
  have p := parse_4 n b h1 hm
  obtain ⟨rfl, -, hh⟩ := may_num hm (by decide)
  refine Or.inl ⟨?_, 0, p⟩
  have e : textL 4 n [] = Lib.decDigits n := by simp [textL, signedB]
  rw [e]
  exact dec_short n h1
theorem parseb_5 (n : Nat) (b : List UInt8) (h1 : n < 18446744073709551616) (hb : b.length ≤ 2097152) (hm : mayE 5 n b [] = 0) : ParseBack 5 n b := by
  have p := parse_5 n b h1 hm
  obtain ⟨rfl, -, hh⟩ := may_num hm (by decide)
  refine Or.inl ⟨?_, 0, p⟩
  have e : textL 5 n [] = Lib.decDigits n := by simp [textL, signedB]
  rw [e]
  exact dec_short n h1
theorem parseb_6 (n : Nat) (b : List UInt8) (h1 : n < 18446744073709551616) (hb : b.length ≤ 2097152) (hm : mayE 6 n b [] = 0) : ParseBack 6 n b := by
  have p := parse_6 n b h1 hm
  obtain ⟨rfl, -, hh⟩ := may_num hm (by decide)
  refine Or.inl ⟨?_, 0, p⟩
  have e : textL 6 n [] = Lib.itoa (sgn n) := by simp [textL, signedB]
  have sl := sgn_lo h1
  rw [e]
  exact itoa_short _ sl.1 sl.2
theorem parseb_7 (n : Nat) (b : List UInt8) (h1 : n < 18446744073709551616) (hb : b.length ≤ 2097152) (hm : mayE 7 n b [] = 0) : ParseBack 7 n b := by
  have p := parse_7 n b h1 hm
  obtain ⟨rfl, -, hh⟩ := may_num hm (by decide)
  refine Or.inl ⟨?_, 0, p⟩
  have e : textL 7 n [] = Lib.itoa (sgn n) := by simp [textL, signedB]
  have sl := sgn_lo h1
  rw [e]
  exact itoa_short _ sl.1 sl.2
theorem parseb_8 (n : Nat) (b : List UInt8) (h1 : n < 18446744073709551616) (hb : b.length ≤ 2097152) (hm : mayE 8 n b [] = 0) : ParseBack 8 n b := by
  have p := parse_8 n b h1 hm
  obtain ⟨rfl, -, hh⟩ := may_num hm (by decide)
  refine Or.inl ⟨?_, 0, p⟩
  have e : textL 8 n [] = Lib.decDigits n := by simp [textL, signedB]
  rw [e]
  exact dec_short n h1
theorem parseb_9 (n : Nat) (b : List UInt8) (h1 : n < 18446744073709551616) (hb : b.length ≤ 2097152) (hm : mayE 9 n b [] = 0) : ParseBack 9 n b := by
  have p := parse_9 n b h1 hm
  obtain ⟨rfl, -, hh⟩ := may_num hm (by decide)
  refine Or.inl ⟨?_, 0, p⟩
  have e : textL 9 n [] = Lib.decDigits n := by simp [textL, signedB]
  rw [e]
  exact dec_short n h1
theorem parseb_10 (n : Nat) (b : List UInt8) (h1 : n < 18446744073709551616) (hb : b.length ≤ 2097152) (hm : mayE 10 n b [] = 0) : ParseBack 10 n b := by
  have p := parse_10 n b h1 hm
  obtain ⟨rfl, -, hh⟩ := may_num hm (by decide)
  refine Or.inl ⟨?_, 0, p⟩
  have e : textL 10 n [] = Lib.itoa (sgn n) := by simp [textL, signedB]
  have sl := sgn_lo h1
  rw [e]
  exact itoa_short _ sl.1 sl.2
theorem parseb_11 (n : Nat) (b : List UInt8) (h1 : n < 18446744073709551616) (hb : b.length ≤ 2097152) (hm : mayE 11 n b [] = 0) : ParseBack 11 n b := by
  have p := parse_11 n b h1 hm
  obtain ⟨rfl, -, hh⟩ := may_num hm (by decide)
  refine Or.inl ⟨?_, 0, p⟩
  have e : textL 11 n [] = Lib.itoa (sgn n) := by simp [textL, signedB]
  have sl := sgn_lo h1
  rw [e]
  exact itoa_short _ sl.1 sl.2
theorem parseb_12 (n : Nat) (b : List UInt8) (h1 : n < 18446744073709551616) (hb : b.length ≤ 2097152) (hm : mayE 12 n b [] = 0) : ParseBack 12 n b := by
  have p := parse_12 n b h1 hm
  obtain ⟨rfl, -, hh⟩ := may_num hm (by decide)
  refine Or.inl ⟨?_, 0, p⟩
  have hn : n < 4294967296 := by simp [holdsB] at hh; omega
  have hl := pad_len 8 n (by omega) (by omega)
  simp [textL, hl]
theorem parseb_13 (n : Nat) (b : List UInt8) (h1 : n < 18446744073709551616) (hb : b.length ≤ 2097152) (hm : mayE 13 n b [] = 0) : ParseBack 13 n b := by
  have p := parse_13 n b h1 hm
  obtain ⟨rfl, -, hh⟩ := may_num hm (by decide)
  refine Or.inl ⟨?_, 0, p⟩
  have hl := pad_len 16 n (by omega) (by omega)
  simp [textL, hl]
theorem parseb_14 (n : Nat) (b : List UInt8) (h1 : n < 18446744073709551616) (hb : b.length ≤ 2097152) (hm : mayE 14 n b [] = 0) : ParseBack 14 n b := by
  have e : textL 14 n b = quoteL b := by simp [textL]
  rcases Nat.lt_or_ge 65536 (quoteL b).length with h | h
  · exact Or.inr ⟨by rw [e]; exact h, parse_14_long n b hb h⟩
  · exact Or.inl ⟨by rw [e]; exact h, 1, parse_14 n b hb hm h⟩
theorem parseb_15 (n : Nat) (b : List UInt8) (h1 : n < 18446744073709551616) (hb : b.length ≤ 2097152) (hm : mayE 15 n b [] = 0) : ParseBack 15 n b := by
  have e : textL 15 n b = quoteL b := by simp [textL]
  rcases Nat.lt_or_ge 65536 (quoteL b).length with h | h
  · exact Or.inr ⟨by rw [e]; exact h, parse_15_long n b hb h⟩
  · exact Or.inl ⟨by rw [e]; exact h, 1, parse_15 n b hb hm h⟩
theorem parseb_16 (n : Nat) (b : List UInt8) (h1 : n < 18446744073709551616) (hb : b.length ≤ 2097152) (hm : mayE 16 n b [] = 0) : ParseBack 16 n b := by
  have p := parse_16 n b h1 hm
  obtain ⟨rfl, -, hh⟩ := may_num hm (by decide)
  refine Or.inl ⟨?_, 0, p⟩
  have e : textL 16 n [] = Lib.decDigits n := by simp [textL, signedB]
  rw [e]
  exact dec_short n h1
theorem getb_all (k : Int) (hk : 1 ≤ k ∧ k ≤ 16) (n : Nat) (b r : List UInt8) (h1 : n < 18446744073709551616) (hm : mayE k n b [] = 0) (hb : b.length + r.length + 10 ≤ 2097152) :
    ∃ s, C M 9 [.d (.int .i64 k), .d (.slice 1 (bytesD (putL k n b ++ r))), .d (.int .i64 0)] = some (.tup [valX s 0 n b [], .int .i64 (putL k n b).length, .int .i64 0]) := by
  rcases (by omega : k = 1 ∨ k = 2 ∨ k = 3 ∨ k = 4 ∨ k = 5 ∨ k = 6 ∨ k = 7 ∨ k = 8 ∨ k = 9 ∨ k = 10 ∨ k = 11 ∨ k = 12 ∨ k = 13 ∨ k = 14 ∨ k = 15 ∨ k = 16) with rfl | rfl | rfl | rfl | rfl | rfl | rfl | rfl | rfl | rfl | rfl | rfl | rfl | rfl | rfl | rfl
  · exact getb_1 n b r h1 hm hb
  · exact getb_2 n b r h1 hm hb
  · exact getb_3 n b r h1 hm hb
  · exact getb_4 n b r h1 hm hb
  · exact getb_5 n b r h1 hm hb
  · exact getb_6 n b r h1 hm hb
  · exact getb_7 n b r h1 hm hb
  · exact getb_8 n b r h1 hm hb
  · exact getb_9 n b r h1 hm hb
  · exact getb_10 n b r h1 hm hb
  · exact getb_11 n b r h1 hm hb
  · exact getb_12 n b r h1 hm hb
  · exact getb_13 n b r h1 hm hb
  · exact getb_14 n b r h1 hm hb
  · exact getb_15 n b r h1 hm hb
  · exact getb_16 n b r h1 hm hb
theorem parseb_all (k : Int) (hk : 1 ≤ k ∧ k ≤ 16) (n : Nat) (b : List UInt8) (h1 : n < 18446744073709551616) (hb : b.length ≤ 2097152) (hm : mayE k n b [] = 0) : ParseBack k n b := by
  rcases (by omega : k = 1 ∨ k = 2 ∨ k = 3 ∨ k = 4 ∨ k = 5 ∨ k = 6 ∨ k = 7 ∨ k = 8 ∨ k = 9 ∨ k = 10 ∨ k = 11 ∨ k = 12 ∨ k = 13 ∨ k = 14 ∨ k = 15 ∨ k = 16) with rfl | rfl | rfl | rfl | rfl | rfl | rfl | rfl | rfl | rfl | rfl | rfl | rfl | rfl | rfl | rfl
  · exact parseb_1 n b h1 hb hm
  · exact parseb_2 n b h1 hb hm
  · exact parseb_3 n b h1 hb hm
  · exact parseb_4 n b h1 hb hm
  · exact parseb_5 n b h1 hb hm
  · exact parseb_6 n b h1 hb hm
  · exact parseb_7 n b h1 hb hm
  · exact parseb_8 n b h1 hb hm
  · exact parseb_9 n b h1 hb hm
  · exact parseb_10 n b h1 hb hm
  · exact parseb_11 n b h1 hb hm
  · exact parseb_12 n b h1 hb hm
  · exact parseb_13 n b h1 hb hm
  · exact parseb_14 n b h1 hb hm
  · exact parseb_15 n b h1 hb hm
  · exact parseb_16 n b h1 hb hm
theorem text_all (k : Int) (hk : 1 ≤ k ∧ k ≤ 16) (n : Nat) (b : List UInt8) (h1 : n < 18446744073709551616) (hb : b.length ≤ 2097152) (hm : mayE k n b [] = 0) :
    C M 10 [.d (.int .i64 k), .d (valX 1 2 n b [])] = some (.tup [.str (textL k n b), .int .i64 0]) := by
  rcases (by omega : k = 1 ∨ k = 2 ∨ k = 3 ∨ k = 4 ∨ k = 5 ∨ k = 6 ∨ k = 7 ∨ k = 8 ∨ k = 9 ∨ k = 10 ∨ k = 11 ∨ k = 12 ∨ k = 13 ∨ k = 14 ∨ k = 15 ∨ k = 16) with rfl | rfl | rfl | rfl | rfl | rfl | rfl | rfl | rfl | rfl | rfl | rfl | rfl | rfl | rfl | rfl
  · exact text_1 n b h1 hb hm
  · exact text_2 n b h1 hb hm
  · exact text_3 n b h1 hb hm
  · exact text_4 n b h1 hb hm
  · exact text_5 n b h1 hb hm
  · exact text_6 n b h1 hb hm
  · exact text_7 n b h1 hb hm
  · exact text_8 n b h1 hb hm
  · exact text_9 n b h1 hb hm
  · exact text_10 n b h1 hb hm
  · exact text_11 n b h1 hb hm
  · exact text_12 n b h1 hb hm
  · exact text_13 n b h1 hb hm
  · exact text_14 n b h1 hb hm
  · exact text_15 n b h1 hb hm
  · exact text_16 n b h1 hb hm
theorem kind_back (k : Int) (hk : 1 ≤ k ∧ k ≤ 15) : C M 7 [.d (.str (nameP k))] = some (.tup [.int .i64 k, .int .i64 0]) := by
  have w := kind_spec (nameP k)
  obtain ⟨j, rfl, hj⟩ : ∃ j : Nat, k = (j : Int) + 1 ∧ j < 15 := ⟨(k - 1).toNat, by omega, by omega⟩
  have h := names_back ⟨j, hj⟩
  simp only at h
  rw [h, if_neg (by omega)] at w
  rw [w]
  rfl
theorem may_ms {k n : Int} {b : List UInt8} {ms : List D} (h : mayE k n b ms = 0) : ms = [] ∧ knownB k = true := by
  cases h1 : knownB k with
  | false => simp [mayE, h1] at h
  | true =>
    refine ⟨?_, rfl⟩
    cases hf : fitsB k n b ms with
    | false => simp [mayE, h1, hf] at h
    | true =>
      simp only [fitsB, h1, Bool.true_and, Bool.and_eq_true, decide_eq_true_eq] at hf
      exact List.eq_nil_of_length_eq_zero hf.1
theorem back_data (k : Int) (n : Nat) (v r : List UInt8) (ms : List D) (h1 : n < 18446744073709551616) (hb : v.length + r.length + 10 ≤ 2097152) :
    C M n_law3_ScalarBack [.d (.int .i64 k), .d (valX 1 2 n v ms), .d (.slice 1 (bytesD r))] = some (.d (.bool true)) := by
  rw [c_fn (sf := f_law3_ScalarBack) rfl rfl ⟨rfl, rfl⟩]
  have w0 := awake_data
  have w1 := name_spec k
  have w3 := put_spec k n v ms h1 (by omega)
  simp only [putD] at w3
  by_cases hm : mayE k n v ms = 0
  · obtain ⟨rfl, hkn⟩ := may_ms hm
    have hk : 1 ≤ k ∧ k ≤ 16 := by simpa [knownB] using hkn
    rw [if_pos hm, hm] at w3
    obtain ⟨s, w4⟩ := getb_all k hk n v r h1 hm hb
    have w5 := text_all k hk n v h1 (by omega) hm
    have w6 := parseb_all k hk n v h1 (by omega) hm
    have w7 := told_v s 1 2 n v
    have hpl := put_len k n v
    have hlr := bytesD_length (s := r)
    have hlp := bytesD_length (s := putL k n v)
    rw [bytesD_append] at w4
    simp only [ParseBack, zeroV] at w6
    generalize textL k n v = T at *
    generalize putL k n v = P at *
    rcases w6 with ⟨hT, s2, w6⟩ | ⟨hT, w6⟩
    · have w8 := told_v s2 1 2 n v
      simp only [valX] at w3 w4 w5 w6 w7 w8 ⊢
      by_cases hk15 : k ≤ 15
      · rw [if_pos ⟨hk.1, hk15⟩] at w1
        have w2 := kind_back k ⟨hk.1, hk15⟩
        generalize nameP k = nm at *
        simp -implicitDefEqProofs (maxSteps := 1000000) (disch := omega) only [↓Int.reduceLT, ↓Int.reduceLE, ↓Int.reduceEq, ↓Nat.reduceEqDiff, Nat.reduceBEq, ↓reduceIte, St.toRS, restrict, initEnv, plainArgs, reduceCtorEq, Nat.reduceEqDiff, Nat.reduceAdd, Nat.reduceMul, Int.reduceLT, Int.reduceLE, Int.reduceEq, Int.reduceNeg, Int.reduceAdd, Int.reduceToNat, Int.reduceNe, Nat.reduceSub, Int.reducePow, Int.reduceMul, vb0, vb1, vb2, vb3, vb4, vb5, vb6, vb7, f_law3_ScalarBack, w0, w1, w2, w3, w4, w5, w6, w7, w8, hlp, hlr, sub, fill, setAt, List.set_cons_zero, List.set_cons_succ, List.getElem?_cons_zero, List.getElem?_cons_succ, List.drop_zero, List.take_succ_cons, List.take_zero]
      · rw [if_neg (by omega)] at w1
        generalize nameP k = nm at *
        simp -implicitDefEqProofs (maxSteps := 1000000) (disch := omega) only [↓Int.reduceLT, ↓Int.reduceLE, ↓Int.reduceEq, ↓Nat.reduceEqDiff, Nat.reduceBEq, ↓reduceIte, St.toRS, restrict, initEnv, plainArgs, reduceCtorEq, Nat.reduceEqDiff, Nat.reduceAdd, Nat.reduceMul, Int.reduceLT, Int.reduceLE, Int.reduceEq, Int.reduceNeg, Int.reduceAdd, Int.reduceToNat, Int.reduceNe, Nat.reduceSub, Int.reducePow, Int.reduceMul, vb0, vb1, vb2, vb3, vb4, vb5, vb6, vb7, f_law3_ScalarBack, w0, w1, w3, w4, w5, w6, w7, w8, hlp, hlr, sub, fill, setAt, List.set_cons_zero, List.set_cons_succ, List.getElem?_cons_zero, List.getElem?_cons_succ, List.drop_zero, List.take_succ_cons, List.take_zero]
    · simp only [valX] at w3 w4 w5 w6 w7 ⊢
      by_cases hk15 : k ≤ 15
      · rw [if_pos ⟨hk.1, hk15⟩] at w1
        have w2 := kind_back k ⟨hk.1, hk15⟩
        generalize nameP k = nm at *
        simp -implicitDefEqProofs (maxSteps := 1000000) (disch := omega) only [↓Int.reduceLT, ↓Int.reduceLE, ↓Int.reduceEq, ↓Nat.reduceEqDiff, Nat.reduceBEq, ↓reduceIte, St.toRS, restrict, initEnv, plainArgs, reduceCtorEq, Nat.reduceEqDiff, Nat.reduceAdd, Nat.reduceMul, Int.reduceLT, Int.reduceLE, Int.reduceEq, Int.reduceNeg, Int.reduceAdd, Int.reduceToNat, Int.reduceNe, Nat.reduceSub, Int.reducePow, Int.reduceMul, vb0, vb1, vb2, vb3, vb4, vb5, vb6, vb7, f_law3_ScalarBack, w0, w1, w2, w3, w4, w5, w6, w7, hlp, hlr, sub, fill, setAt, List.set_cons_zero, List.set_cons_succ, List.getElem?_cons_zero, List.getElem?_cons_succ, List.drop_zero, List.take_succ_cons, List.take_zero]
      · rw [if_neg (by omega)] at w1
        generalize nameP k = nm at *
        simp -implicitDefEqProofs (maxSteps := 1000000) (disch := omega) only [↓Int.reduceLT, ↓Int.reduceLE, ↓Int.reduceEq, ↓Nat.reduceEqDiff, Nat.reduceBEq, ↓reduceIte, St.toRS, restrict, initEnv, plainArgs, reduceCtorEq, Nat.reduceEqDiff, Nat.reduceAdd, Nat.reduceMul, Int.reduceLT, Int.reduceLE, Int.reduceEq, Int.reduceNeg, Int.reduceAdd, Int.reduceToNat, Int.reduceNe, Nat.reduceSub, Int.reducePow, Int.reduceMul, vb0, vb1, vb2, vb3, vb4, vb5, vb6, vb7, f_law3_ScalarBack, w0, w1, w3, w4, w5, w6, w7, hlp, hlr, sub, fill, setAt, List.set_cons_zero, List.set_cons_succ, List.getElem?_cons_zero, List.getElem?_cons_succ, List.drop_zero, List.take_succ_cons, List.take_zero]
  · rw [if_neg hm, bytesD_nil] at w3
    generalize mayE k n v ms = e at *
    simp only [valX] at w3 ⊢
    by_cases hk : 1 ≤ k ∧ k ≤ 15
    · rw [if_pos hk] at w1
      have w2 := kind_back k hk
      generalize nameP k = nm at *
      simp -implicitDefEqProofs (maxSteps := 1000000) (disch := omega) only [↓Int.reduceLT, ↓Int.reduceLE, ↓Int.reduceEq, ↓Nat.reduceEqDiff, Nat.reduceBEq, ↓reduceIte, St.toRS, restrict, initEnv, plainArgs, reduceCtorEq, Nat.reduceEqDiff, Nat.reduceAdd, Nat.reduceMul, Int.reduceLT, Int.reduceLE, Int.reduceEq, Int.reduceNeg, Int.reduceAdd, Int.reduceToNat, Int.reduceNe, Nat.reduceSub, Int.reducePow, Int.reduceMul, vb0, vb1, vb2, vb3, vb4, vb5, vb6, vb7, f_law3_ScalarBack, w0, w1, w2, w3, sub, fill, setAt, List.set_cons_zero, List.set_cons_succ, List.getElem?_cons_zero, List.getElem?_cons_succ, List.drop_zero, List.take_succ_cons, List.take_zero]
    · rw [if_neg hk] at w1
      generalize nameP k = nm at *
      simp -implicitDefEqProofs (maxSteps := 1000000) (disch := omega) only [↓Int.reduceLT, ↓Int.reduceLE, ↓Int.reduceEq, ↓Nat.reduceEqDiff, Nat.reduceBEq, ↓reduceIte, St.toRS, restrict, initEnv, plainArgs, reduceCtorEq, Nat.reduceEqDiff, Nat.reduceAdd, Nat.reduceMul, Int.reduceLT, Int.reduceLE, Int.reduceEq, Int.reduceNeg, Int.reduceAdd, Int.reduceToNat, Int.reduceNe, Nat.reduceSub, Int.reducePow, Int.reduceMul, vb0, vb1, vb2, vb3, vb4, vb5, vb6, vb7, f_law3_ScalarBack, w0, w1, w3, sub, fill, setAt, List.set_cons_zero, List.set_cons_succ, List.getElem?_cons_zero, List.getElem?_cons_succ, List.drop_zero, List.take_succ_cons, List.take_zero]
end Go.Proofs.YtedncpnkbpbchaaGreatDoor
