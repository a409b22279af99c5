/-
  What quote.Quote answers: over data.
  What quote.Digit and quote.Unquote answer: over data.
  What quote.Unquote answers: over data.
  A quoted text read back is what was quoted.
-/
import Derived.Test.YtedncpnkbpbchaaGreatDoorFns
import Derived.Test.YtedncpnkbpbchaaGreatDoorViSet
set_option linter.unusedVariables false
set_option linter.unusedSimpArgs false
set_option maxRecDepth 100000
set_option maxHeartbeats 8000000
namespace Go.Proofs.YtedncpnkbpbchaaGreatDoor
open Go.Vi

def hexD (n : Nat) : UInt8 := if n < 10 then UInt8.ofNat (48 + n) else UInt8.ofNat (87 + n)
/-- A byte in a quoted text. -/
def qByte (c : UInt8) : List UInt8 :=
  if c.toNat = 34 ∨ c.toNat = 92 then [92, c] else if c.toNat = 10 then [92, 110] else if c.toNat = 9 then [92, 116] else if c.toNat = 13 then [92, 114]
  else if c.toNat < 32 ∨ 126 < c.toNat then [92, 120, hexD (c.toNat / 16), hexD (c.toNat % 16)] else [c]

def q_inv (b : List UInt8) (out : List UInt8) (i : Nat) : St :=
  { env := [(3, .own 1 (bytesD out)), (12, .d (.slice 1 (bytesD b))), (13, .d (.int .i64 b.length)), (14, .d (.int .i64 i))], bx := [] }

def hexText : List UInt8 := [48, 49, 50, 51, 52, 53, 54, 55, 56, 57, 97, 98, 99, 100, 101, 102]
theorem hex_hi : ∀ n : Fin 256, hexText[((n.val : Int).fdiv 16).toNat]? = some (hexD (n.val / 16)) ∧ 0 ≤ (n.val : Int).fdiv 16 := by decide +kernel
theorem hex_lo : ∀ n : Fin 256, hexText[(bitsD .and .u8 n.val 15).toNat]? = some (hexD (n.val % 16)) ∧ 0 ≤ bitsD .and .u8 n.val 15 := by decide +kernel

theorem q_round (b out : List UInt8) (i : Nat) (c : UInt8) (hb : b.length ≤ 140737488355328) (ho : out.length + 4 ≤ 140737488355328) (hc : b[i]? = some c) :
    X M l_quote_Quote_1 (q_inv b out i) = some (.norm, q_inv b (out ++ qByte c) (i + 1)) := by
  have hi : i < b.length := (List.getElem?_eq_some_iff.1 hc).1
  have hib : ((i : Int) < b.length) := by omega
  have w1 : IntKind.i64.wrap ((i : Int) + 1) = ((i + 1 : Nat) : Int) := by rw [wrap_i64 (by omega) (by omega)]; omega
  have o1 : out.length + 1 ≤ 140737488355328 := by omega
  have o2 : out.length + 2 ≤ 140737488355328 := by omega
  have o4 : out.length + 4 ≤ 140737488355328 := by omega
  have hlt : c.toNat < 256 := c.toNat_lt
  by_cases h34 : c.toNat = 34
  · have hq : qByte c = [92, c] := by simp [qByte, h34]
    have f1 : ((c.toNat : Int) = 34) := by omega
    simp -implicitDefEqProofs (maxSteps := 1000000) (disch := omega) only [↓Int.reduceLT, ↓Int.reduceLE, ↓Int.reduceEq, ↓Nat.reduceEqDiff, Nat.reduceBEq, ↓reduceIte, St.toRS, restrict, initEnv, plainArgs, reduceCtorEq, Nat.reduceEqDiff, Nat.reduceAdd, Nat.reduceMul, Int.reduceLT, Int.reduceLE, Int.reduceEq, Int.reduceNeg, Int.reduceAdd, Int.reduceToNat, Int.reduceNe, Nat.reduceSub, Int.reducePow, Int.reduceMul, vb0, vb1, vb2, vb3, vb4, vb5, vb6, vb7, l_quote_Quote_1, q_inv, hq, hib, bytesD_get, hc, byteD, f1, w1, bytesD_length, o2, bytesD_append, bytesD_cons, bytesD_nil]
    rfl
  by_cases h92 : c.toNat = 92
  · have hq : qByte c = [92, c] := by simp [qByte, h92]
    have f1 : ((c.toNat : Int) = 92) := by omega
    simp -implicitDefEqProofs (maxSteps := 1000000) (disch := omega) only [↓Int.reduceLT, ↓Int.reduceLE, ↓Int.reduceEq, ↓Nat.reduceEqDiff, Nat.reduceBEq, ↓reduceIte, St.toRS, restrict, initEnv, plainArgs, reduceCtorEq, Nat.reduceEqDiff, Nat.reduceAdd, Nat.reduceMul, Int.reduceLT, Int.reduceLE, Int.reduceEq, Int.reduceNeg, Int.reduceAdd, Int.reduceToNat, Int.reduceNe, Nat.reduceSub, Int.reducePow, Int.reduceMul, vb0, vb1, vb2, vb3, vb4, vb5, vb6, vb7, l_quote_Quote_1, q_inv, hq, hib, bytesD_get, hc, byteD, f1, w1, bytesD_length, o2, bytesD_append, bytesD_cons, bytesD_nil]
    rfl
  by_cases h10 : c.toNat = 10
  · have hq : qByte c = [92, 110] := by simp [qByte, h10]
    have f1 : ((c.toNat : Int) = 10) := by omega
    simp -implicitDefEqProofs (maxSteps := 1000000) (disch := omega) only [↓Int.reduceLT, ↓Int.reduceLE, ↓Int.reduceEq, ↓Nat.reduceEqDiff, Nat.reduceBEq, ↓reduceIte, St.toRS, restrict, initEnv, plainArgs, reduceCtorEq, Nat.reduceEqDiff, Nat.reduceAdd, Nat.reduceMul, Int.reduceLT, Int.reduceLE, Int.reduceEq, Int.reduceNeg, Int.reduceAdd, Int.reduceToNat, Int.reduceNe, Nat.reduceSub, Int.reducePow, Int.reduceMul, vb0, vb1, vb2, vb3, vb4, vb5, vb6, vb7, l_quote_Quote_1, q_inv, hq, hib, bytesD_get, hc, byteD, f1, w1, bytesD_length, o2, bytesD_append, bytesD_cons, bytesD_nil]
    rfl
  by_cases h9 : c.toNat = 9
  · have hq : qByte c = [92, 116] := by simp [qByte, h9]
    have f1 : ((c.toNat : Int) = 9) := by omega
    simp -implicitDefEqProofs (maxSteps := 1000000) (disch := omega) only [↓Int.reduceLT, ↓Int.reduceLE, ↓Int.reduceEq, ↓Nat.reduceEqDiff, Nat.reduceBEq, ↓reduceIte, St.toRS, restrict, initEnv, plainArgs, reduceCtorEq, Nat.reduceEqDiff, Nat.reduceAdd, Nat.reduceMul, Int.reduceLT, Int.reduceLE, Int.reduceEq, Int.reduceNeg, Int.reduceAdd, Int.reduceToNat, Int.reduceNe, Nat.reduceSub, Int.reducePow, Int.reduceMul, vb0, vb1, vb2, vb3, vb4, vb5, vb6, vb7, l_quote_Quote_1, q_inv, hq, hib, bytesD_get, hc, byteD, f1, w1, bytesD_length, o2, bytesD_append, bytesD_cons, bytesD_nil]
    rfl
  by_cases h13 : c.toNat = 13
  · have hq : qByte c = [92, 114] := by simp [qByte, h13]
    have f1 : ((c.toNat : Int) = 13) := by omega
    simp -implicitDefEqProofs (maxSteps := 1000000) (disch := omega) only [↓Int.reduceLT, ↓Int.reduceLE, ↓Int.reduceEq, ↓Nat.reduceEqDiff, Nat.reduceBEq, ↓reduceIte, St.toRS, restrict, initEnv, plainArgs, reduceCtorEq, Nat.reduceEqDiff, Nat.reduceAdd, Nat.reduceMul, Int.reduceLT, Int.reduceLE, Int.reduceEq, Int.reduceNeg, Int.reduceAdd, Int.reduceToNat, Int.reduceNe, Nat.reduceSub, Int.reducePow, Int.reduceMul, vb0, vb1, vb2, vb3, vb4, vb5, vb6, vb7, l_quote_Quote_1, q_inv, hq, hib, bytesD_get, hc, byteD, f1, w1, bytesD_length, o2, bytesD_append, bytesD_cons, bytesD_nil]
    rfl
  have g1 : ¬ ((c.toNat : Int) = 34) := by omega
  have g2 : ¬ ((c.toNat : Int) = 92) := by omega
  have g3 : ¬ ((c.toNat : Int) = 10) := by omega
  have g4 : ¬ ((c.toNat : Int) = 9) := by omega
  have g5 : ¬ ((c.toNat : Int) = 13) := by omega
  have x1 := hex_hi ⟨c.toNat, hlt⟩
  have x2 := hex_lo ⟨c.toNat, hlt⟩
  simp only [hexText] at x1 x2
  by_cases hx : c.toNat < 32 ∨ 126 < c.toNat
  · have hq : qByte c = [92, 120, hexD (c.toNat / 16), hexD (c.toNat % 16)] := by simp only [qByte, h34, h92, h10, h9, h13, hx, or_self, if_true, if_false]
    by_cases h32 : c.toNat < 32
    · have g6 : ((c.toNat : Int) < 32) := by omega
      simp -implicitDefEqProofs (maxSteps := 1000000) (disch := omega) only [↓Int.reduceLT, ↓Int.reduceLE, ↓Int.reduceEq, ↓Nat.reduceEqDiff, Nat.reduceBEq, ↓reduceIte, St.toRS, restrict, initEnv, plainArgs, reduceCtorEq, Nat.reduceEqDiff, Nat.reduceAdd, Nat.reduceMul, Int.reduceLT, Int.reduceLE, Int.reduceEq, Int.reduceNeg, Int.reduceAdd, Int.reduceToNat, Int.reduceNe, Nat.reduceSub, Int.reducePow, Int.reduceMul, vb0, vb1, vb2, vb3, vb4, vb5, vb6, vb7, l_quote_Quote_1, q_inv, hq, hib, bytesD_get, hc, byteD, g1, g2, g3, g4, g5, g6, w1, bytesD_length, o4, bytesD_append, bytesD_cons, bytesD_nil, x1, x2]
      rfl
    · have g6 : ¬ ((c.toNat : Int) < 32) := by omega
      have g7 : ((126 : Int) < c.toNat) := by omega
      simp -implicitDefEqProofs (maxSteps := 1000000) (disch := omega) only [↓Int.reduceLT, ↓Int.reduceLE, ↓Int.reduceEq, ↓Nat.reduceEqDiff, Nat.reduceBEq, ↓reduceIte, St.toRS, restrict, initEnv, plainArgs, reduceCtorEq, Nat.reduceEqDiff, Nat.reduceAdd, Nat.reduceMul, Int.reduceLT, Int.reduceLE, Int.reduceEq, Int.reduceNeg, Int.reduceAdd, Int.reduceToNat, Int.reduceNe, Nat.reduceSub, Int.reducePow, Int.reduceMul, vb0, vb1, vb2, vb3, vb4, vb5, vb6, vb7, l_quote_Quote_1, q_inv, hq, hib, bytesD_get, hc, byteD, g1, g2, g3, g4, g5, g6, g7, w1, bytesD_length, o4, bytesD_append, bytesD_cons, bytesD_nil, x1, x2]
      rfl
  · have hq : qByte c = [c] := by simp only [qByte, h34, h92, h10, h9, h13, hx, or_self, if_false]
    have g6 : ¬ ((c.toNat : Int) < 32) := by omega
    have g7 : ¬ ((126 : Int) < c.toNat) := by omega
    simp -implicitDefEqProofs (maxSteps := 1000000) (disch := omega) only [↓Int.reduceLT, ↓Int.reduceLE, ↓Int.reduceEq, ↓Nat.reduceEqDiff, Nat.reduceBEq, ↓reduceIte, St.toRS, restrict, initEnv, plainArgs, reduceCtorEq, Nat.reduceEqDiff, Nat.reduceAdd, Nat.reduceMul, Int.reduceLT, Int.reduceLE, Int.reduceEq, Int.reduceNeg, Int.reduceAdd, Int.reduceToNat, Int.reduceNe, Nat.reduceSub, Int.reducePow, Int.reduceMul, vb0, vb1, vb2, vb3, vb4, vb5, vb6, vb7, l_quote_Quote_1, q_inv, hq, hib, bytesD_get, hc, byteD, g1, g2, g3, g4, g5, g6, g7, w1, bytesD_length, o1, bytesD_append, bytesD_cons, bytesD_nil]

def quoteL (b : List UInt8) : List UInt8 := 34 :: (b.flatMap qByte ++ [34])

theorem qByte_len (c : UInt8) : (qByte c).length ≤ 4 := by
  unfold qByte
  repeat (first | split | simp)

theorem flat_len : ∀ b : List UInt8, (b.flatMap qByte).length ≤ 4 * b.length
  | [] => by simp
  | c :: b => by
    have := flat_len b
    have := qByte_len c
    simp only [List.flatMap_cons, List.length_append, List.length_cons]
    omega

def q_end (b : List UInt8) : St :=
  { env := [(3, .own 1 (bytesD (34 :: b.flatMap qByte))), (12, .d (.slice 1 (bytesD b))), (13, .d (.int .i64 b.length)), (14, .d (.int .i64 b.length)), (15, .d (.bool false))], bx := [] }
theorem quote_loop (b : List UInt8) (hb : 4 * b.length + 8 ≤ 140737488355328) : X M (.loop l_quote_Quote_1) (q_inv b [34] 0) = some (.exit 0, q_end b) := by
  have hend : X M (.loop l_quote_Quote_1) (q_inv b (34 :: b.flatMap qByte) b.length) = some (.exit 0, q_end b) := by
    refine loop_exit ?_ (by simp)
    have h1 : ¬ ((b.length : Int) < b.length) := by omega
    simp -implicitDefEqProofs (maxSteps := 1000000) (disch := omega) only [↓Int.reduceLT, ↓Int.reduceLE, ↓Int.reduceEq, ↓Nat.reduceEqDiff, Nat.reduceBEq, ↓reduceIte, St.toRS, restrict, initEnv, plainArgs, reduceCtorEq, Nat.reduceEqDiff, Nat.reduceAdd, Nat.reduceMul, Int.reduceLT, Int.reduceLE, Int.reduceEq, Int.reduceNeg, Int.reduceAdd, Int.reduceToNat, Int.reduceNe, Nat.reduceSub, Int.reducePow, Int.reduceMul, vb0, vb1, vb2, vb3, vb4, vb5, vb6, vb7, l_quote_Quote_1, q_inv, q_end, h1]
  have := loop_to (M := M) (b := l_quote_Quote_1) (inv := fun i => q_inv b (34 :: (b.take i).flatMap qByte) i) (n := b.length) (fun i hi => by
    have hg : b[i]? = some b[i] := by simp [hi]
    have hlen : (34 :: (b.take i).flatMap qByte).length + 4 ≤ 140737488355328 := by
      have := flat_len (b.take i)
      simp only [List.length_cons, List.length_take] at this ⊢
      omega
    have hnext : 34 :: (b.take (i + 1)).flatMap qByte = (34 :: (b.take i).flatMap qByte) ++ qByte b[i] := by
      rw [List.take_add_one, hg]; simp only [List.flatMap_append, Option.toList_some, List.flatMap_cons, List.flatMap_nil, List.append_nil, List.cons_append]
    simp only [hnext]
    exact q_round b _ i b[i] (by omega) hlen hg) (by simpa using hend) 0 (by omega)
  simpa using this

theorem quote_spec (b : List UInt8) (hb : 4 * b.length + 8 ≤ 140737488355328) : C M n_quote_Quote [.d (.slice 1 (bytesD b))] = some (.d (.str (quoteL b))) := by
  rw [c_fn (sf := f_quote_Quote) rfl rfl ⟨rfl, rfl⟩]
  have hl := quote_loop b hb
  have w2 : IntKind.i64.wrap ((b.length : Int) + 2) = (b.length : Int) + 2 := wrap_i64 (by omega) (by omega)
  have a1 : (0 : Int) ≤ (b.length : Int) + 2 := by omega
  have a2 : ((1 : Nat) : Int) * ((b.length : Int) + 2) ≤ 281474976710656 := by omega
  have a3 : (b.length : Int) + 2 ≤ 9223372036854775807 := by omega
  have hq0 : q_inv b [34] 0 = { env := [(3, .own 1 [.int .u8 34]), (12, .d (.slice 1 (bytesD b))), (13, .d (.int .i64 b.length)), (14, .d (.int .i64 0))], bx := [] } := rfl
  rw [hq0] at hl
  have k1 : (1 : Nat) ≤ 140737488355328 := by omega
  have hfl := flat_len b
  have k2 : (b.flatMap qByte).length + 1 + 1 ≤ 140737488355328 := by omega
  have hcs : bytesD (34 :: b.flatMap qByte) ++ [D.int .u8 34] = bytesD (quoteL b) := by simp [quoteL, bytesD]
  simp -implicitDefEqProofs (maxSteps := 1000000) (disch := omega) only [↓Int.reduceLT, ↓Int.reduceLE, ↓Int.reduceEq, ↓Nat.reduceEqDiff, Nat.reduceBEq, ↓reduceIte, St.toRS, restrict, initEnv, plainArgs, reduceCtorEq, Nat.reduceEqDiff, Nat.reduceAdd, Nat.reduceMul, Int.reduceLT, Int.reduceLE, Int.reduceEq, Int.reduceNeg, Int.reduceAdd, Int.reduceToNat, Int.reduceNe, Nat.reduceSub, Int.reducePow, Int.reduceMul, vb0, vb1, vb2, vb3, vb4, vb5, vb6, vb7, f_quote_Quote, bytesD_length, w2, a1, a2, a3, k1, hl, q_end, k2, hcs, e_cstrB]
end Go.Proofs.YtedncpnkbpbchaaGreatDoor
namespace Go.Proofs.YtedncpnkbpbchaaGreatDoor
open Go.Vi

/-- A digit by base 16; -1: none. -/
def hexI (n : Nat) : Int := if 48 ≤ n ∧ n ≤ 57 then n - 48 else if 97 ≤ n ∧ n ≤ 102 then n - 87 else if 65 ≤ n ∧ n ≤ 70 then n - 55 else -1
theorem hexI_range (n : Nat) : -1 ≤ hexI n ∧ hexI n < 16 := by
  unfold hexI
  split
  · omega
  split
  · omega
  split
  · omega
  · omega

theorem digit_spec (n : Nat) (hn : n < 256) : C M n_quote_Digit [.d (.int .u8 n)] = some (.d (.int .i64 (hexI n))) := by
  rw [c_fn (sf := f_quote_Digit) rfl rfl ⟨rfl, rfl⟩]
  by_cases a : 48 ≤ n ∧ n ≤ 57
  · have f1 : (48 : Int) ≤ n := by omega
    have f2 : (n : Int) ≤ 57 := by omega
    have e : hexI n = n - 48 := by simp [hexI, a]
    have w1 : IntKind.u8.wrap ((n : Int) - 48) = n - 48 := wrap_u8 (by omega) (by omega)
    have w2 : IntKind.i64.wrap ((n : Int) - 48) = n - 48 := wrap_i64 (by omega) (by omega)
    simp -implicitDefEqProofs (maxSteps := 1000000) (disch := omega) only [↓Int.reduceLT, ↓Int.reduceLE, ↓Int.reduceEq, ↓Nat.reduceEqDiff, Nat.reduceBEq, ↓reduceIte, St.toRS, restrict, initEnv, plainArgs, reduceCtorEq, Nat.reduceEqDiff, Nat.reduceAdd, Nat.reduceMul, Int.reduceLT, Int.reduceLE, Int.reduceEq, Int.reduceNeg, Int.reduceAdd, Int.reduceToNat, Int.reduceNe, Nat.reduceSub, Int.reducePow, Int.reduceMul, vb0, vb1, vb2, vb3, vb4, vb5, vb6, vb7, f_quote_Digit, f1, f2, w1, w2, e]
  by_cases b : 97 ≤ n ∧ n ≤ 102
  · have f1 : (48 : Int) ≤ n := by omega
    have f2 : ¬ (n : Int) ≤ 57 := by omega
    have f3 : (97 : Int) ≤ n := by omega
    have f4 : (n : Int) ≤ 102 := by omega
    have e : hexI n = n - 87 := by simp [hexI, a, b]
    have w1 : IntKind.u8.wrap ((n : Int) - 97) = n - 97 := wrap_u8 (by omega) (by omega)
    have w2 : IntKind.i64.wrap ((n : Int) - 97) = n - 97 := wrap_i64 (by omega) (by omega)
    have w3 : IntKind.i64.wrap ((n : Int) - 97 + 10) = n - 87 := by rw [wrap_i64 (by omega) (by omega)]; omega
    simp -implicitDefEqProofs (maxSteps := 1000000) (disch := omega) only [↓Int.reduceLT, ↓Int.reduceLE, ↓Int.reduceEq, ↓Nat.reduceEqDiff, Nat.reduceBEq, ↓reduceIte, St.toRS, restrict, initEnv, plainArgs, reduceCtorEq, Nat.reduceEqDiff, Nat.reduceAdd, Nat.reduceMul, Int.reduceLT, Int.reduceLE, Int.reduceEq, Int.reduceNeg, Int.reduceAdd, Int.reduceToNat, Int.reduceNe, Nat.reduceSub, Int.reducePow, Int.reduceMul, vb0, vb1, vb2, vb3, vb4, vb5, vb6, vb7, f_quote_Digit, f1, f2, f3, f4, w1, w2, w3, e]
  by_cases c : 65 ≤ n ∧ n ≤ 70
  · have f1 : (48 : Int) ≤ n := by omega
    have f2 : ¬ (n : Int) ≤ 57 := by omega
    have f3 : ¬ (97 : Int) ≤ n := by omega
    have f5 : (65 : Int) ≤ n := by omega
    have f6 : (n : Int) ≤ 70 := by omega
    have e : hexI n = n - 55 := by simp [hexI, a, b, c]
    have w1 : IntKind.u8.wrap ((n : Int) - 65) = n - 65 := wrap_u8 (by omega) (by omega)
    have w2 : IntKind.i64.wrap ((n : Int) - 65) = n - 65 := wrap_i64 (by omega) (by omega)
    have w3 : IntKind.i64.wrap ((n : Int) - 65 + 10) = n - 55 := by rw [wrap_i64 (by omega) (by omega)]; omega
    simp -implicitDefEqProofs (maxSteps := 1000000) (disch := omega) only [↓Int.reduceLT, ↓Int.reduceLE, ↓Int.reduceEq, ↓Nat.reduceEqDiff, Nat.reduceBEq, ↓reduceIte, St.toRS, restrict, initEnv, plainArgs, reduceCtorEq, Nat.reduceEqDiff, Nat.reduceAdd, Nat.reduceMul, Int.reduceLT, Int.reduceLE, Int.reduceEq, Int.reduceNeg, Int.reduceAdd, Int.reduceToNat, Int.reduceNe, Nat.reduceSub, Int.reducePow, Int.reduceMul, vb0, vb1, vb2, vb3, vb4, vb5, vb6, vb7, f_quote_Digit, f1, f2, f3, f5, f6, w1, w2, w3, e]
  have e : hexI n = -1 := by simp [hexI, a, b, c]
  by_cases x1 : (48 : Int) ≤ n
  · have y1 : ¬ (n : Int) ≤ 57 := by omega
    by_cases x2 : (97 : Int) ≤ n
    · have y2 : ¬ (n : Int) ≤ 102 := by omega
      have x3 : (65 : Int) ≤ n := by omega
      have y3 : ¬ (n : Int) ≤ 70 := by omega
      simp -implicitDefEqProofs (maxSteps := 1000000) (disch := omega) only [↓Int.reduceLT, ↓Int.reduceLE, ↓Int.reduceEq, ↓Nat.reduceEqDiff, Nat.reduceBEq, ↓reduceIte, St.toRS, restrict, initEnv, plainArgs, reduceCtorEq, Nat.reduceEqDiff, Nat.reduceAdd, Nat.reduceMul, Int.reduceLT, Int.reduceLE, Int.reduceEq, Int.reduceNeg, Int.reduceAdd, Int.reduceToNat, Int.reduceNe, Nat.reduceSub, Int.reducePow, Int.reduceMul, vb0, vb1, vb2, vb3, vb4, vb5, vb6, vb7, f_quote_Digit, x1, y1, x2, y2, x3, y3, e]
    · by_cases x3 : (65 : Int) ≤ n
      · have y3 : ¬ (n : Int) ≤ 70 := by omega
        simp -implicitDefEqProofs (maxSteps := 1000000) (disch := omega) only [↓Int.reduceLT, ↓Int.reduceLE, ↓Int.reduceEq, ↓Nat.reduceEqDiff, Nat.reduceBEq, ↓reduceIte, St.toRS, restrict, initEnv, plainArgs, reduceCtorEq, Nat.reduceEqDiff, Nat.reduceAdd, Nat.reduceMul, Int.reduceLT, Int.reduceLE, Int.reduceEq, Int.reduceNeg, Int.reduceAdd, Int.reduceToNat, Int.reduceNe, Nat.reduceSub, Int.reducePow, Int.reduceMul, vb0, vb1, vb2, vb3, vb4, vb5, vb6, vb7, f_quote_Digit, x1, y1, x2, x3, y3, e]
      · simp -implicitDefEqProofs (maxSteps := 1000000) (disch := omega) only [↓Int.reduceLT, ↓Int.reduceLE, ↓Int.reduceEq, ↓Nat.reduceEqDiff, Nat.reduceBEq, ↓reduceIte, St.toRS, restrict, initEnv, plainArgs, reduceCtorEq, Nat.reduceEqDiff, Nat.reduceAdd, Nat.reduceMul, Int.reduceLT, Int.reduceLE, Int.reduceEq, Int.reduceNeg, Int.reduceAdd, Int.reduceToNat, Int.reduceNe, Nat.reduceSub, Int.reducePow, Int.reduceMul, vb0, vb1, vb2, vb3, vb4, vb5, vb6, vb7, f_quote_Digit, x1, y1, x2, x3, e]
  · have x2 : ¬ (97 : Int) ≤ n := by omega
    have x3 : ¬ (65 : Int) ≤ n := by omega
    simp -implicitDefEqProofs (maxSteps := 1000000) (disch := omega) only [↓Int.reduceLT, ↓Int.reduceLE, ↓Int.reduceEq, ↓Nat.reduceEqDiff, Nat.reduceBEq, ↓reduceIte, St.toRS, restrict, initEnv, plainArgs, reduceCtorEq, Nat.reduceEqDiff, Nat.reduceAdd, Nat.reduceMul, Int.reduceLT, Int.reduceLE, Int.reduceEq, Int.reduceNeg, Int.reduceAdd, Int.reduceToNat, Int.reduceNe, Nat.reduceSub, Int.reducePow, Int.reduceMul, vb0, vb1, vb2, vb3, vb4, vb5, vb6, vb7, f_quote_Digit, x1, x2, x3, e]

/-- One character of a quoted text: the byte, how many characters it takes; none: a fault. -/
def uqStep : List UInt8 → Option (UInt8 × Nat)
  | [] => none
  | c :: r =>
    if c.toNat = 34 ∨ c.toNat = 10 then none
    else if c.toNat ≠ 92 then some (c, 1)
    else match r with
      | [] => none
      | d :: r =>
        if d.toNat = 34 ∨ d.toNat = 92 then some (d, 2)
        else if d.toNat = 110 then some (10, 2)
        else if d.toNat = 116 then some (9, 2)
        else if d.toNat = 114 then some (13, 2)
        else if d.toNat = 120 then
          match r with
          | x :: y :: _ => if hexI x.toNat < 0 ∨ hexI y.toNat < 0 then none else some (UInt8.ofNat (hexI x.toNat * 16 + hexI y.toNat).toNat, 4)
          | _ => none
        else none
/-- The bytes of a quoted text, without its marks. -/
def unqF : Nat → List UInt8 → Option (List UInt8)
  | _, [] => some []
  | 0, _ :: _ => none
  | n + 1, c :: r =>
    match uqStep (c :: r) with
    | none => none
    | some (b, k) => (unqF n ((c :: r).drop k)).map (b :: ·)
def unq (s : List UInt8) : Option (List UInt8) := unqF s.length s

theorem uqStep_len {s : List UInt8} {b : UInt8} {k : Nat} (h : uqStep s = some (b, k)) : 1 ≤ k ∧ k ≤ s.length := by
  match s with
  | [] => simp [uqStep] at h
  | c :: r =>
    simp only [uqStep] at h
    split at h
    · cases h
    split at h
    · cases h; simp
    match r with
    | [] => cases h
    | d :: r =>
      simp only at h
      split at h
      · cases h; simp
      split at h
      · cases h; simp
      split at h
      · cases h; simp
      split at h
      · cases h; simp
      split at h
      · match r with
        | [] => cases h
        | [x] => cases h
        | x :: y :: r =>
          simp only at h
          split at h
          · cases h
          · cases h; simp
      · cases h

theorem unqF_more : ∀ (n m : Nat) (s : List UInt8), s.length ≤ n → n ≤ m → unqF m s = unqF n s
  | n, m, [], _, _ => by cases n <;> cases m <;> rfl
  | 0, m, c :: r, h, _ => by simp at h
  | n + 1, 0, c :: r, _, h => by omega
  | n + 1, m + 1, c :: r, h, hm => by
    simp only [unqF]
    cases hs : uqStep (c :: r) with
    | none => rfl
    | some p =>
      obtain ⟨b, k⟩ := p
      have := uqStep_len hs
      simp only
      rw [unqF_more n m _ (by simp only [List.length_drop, List.length_cons] at this h ⊢; omega) (by omega)]

theorem or_hex : ∀ a b : Fin 16, bitsD .or .i64 ((a.val : Int) * 16) b.val = (a.val : Int) * 16 + b.val := by decide +kernel

def u_inv (s out : List UInt8) (i : Nat) : St := { env := [(0, .d (.str s)), (4, .own 1 (bytesD out)), (5, .d (.int .i64 i))], bx := [] }
def u_fail : Option (Ex × St) := some (.ret, { env := [(2, .own 1 []), (3, .d (.int .i64 11))], bx := [] })

theorem toNat_ofNatU (n : Nat) (h : n < 256) : (UInt8.ofNat n).toNat = n := by simp [UInt8.toNat_ofNat']; omega

theorem u_round (s out : List UInt8) (i : Nat) (hs : s.length ≤ 65536) (ho : out.length ≤ 65536) (hi : i < s.length) :
    X M l_quote_Unquote_1 (u_inv s out i) = match uqStep (s.drop i) with
      | none => u_fail
      | some (b, k) => some (.norm, u_inv s (out ++ [b]) (i + k)) := by
  have hib : ((i : Int) < s.length) := by omega
  have hg : s[i]? = some s[i] := by simp [hi]
  have hdrop : s.drop i = s[i] :: s.drop (i + 1) := List.drop_eq_getElem_cons hi
  have w1 : IntKind.i64.wrap ((i : Int) + 1) = ((i + 1 : Nat) : Int) := by rw [wrap_i64 (by omega) (by omega)]; omega
  have w2 : IntKind.i64.wrap (((i + 1 : Nat) : Int) + 1) = ((i + 2 : Nat) : Int) := by rw [wrap_i64 (by omega) (by omega)]; omega
  have w3 : IntKind.i64.wrap (((i + 1 : Nat) : Int) + 2) = ((i + 3 : Nat) : Int) := by rw [wrap_i64 (by omega) (by omega)]; omega
  have w4 : IntKind.i64.wrap (((i + 3 : Nat) : Int) + 1) = ((i + 4 : Nat) : Int) := by rw [wrap_i64 (by omega) (by omega)]; omega
  have o1 : out.length + 1 ≤ 140737488355328 := by omega
  rw [hdrop]
  generalize hc : s[i] = c at hg ⊢
  have hlt : c.toNat < 256 := c.toNat_lt
  by_cases h34 : c.toNat = 34
  · have f1 : ((c.toNat : Int) = 34) := by omega
    have hq : uqStep (c :: s.drop (i + 1)) = none := by simp [uqStep, h34]
    rw [hq]
    simp -implicitDefEqProofs (maxSteps := 1000000) (disch := omega) only [↓Int.reduceLT, ↓Int.reduceLE, ↓Int.reduceEq, ↓Nat.reduceEqDiff, Nat.reduceBEq, ↓reduceIte, St.toRS, restrict, initEnv, plainArgs, reduceCtorEq, Nat.reduceEqDiff, Nat.reduceAdd, Nat.reduceMul, Int.reduceLT, Int.reduceLE, Int.reduceEq, Int.reduceNeg, Int.reduceAdd, Int.reduceToNat, Int.reduceNe, Nat.reduceSub, Int.reducePow, Int.reduceMul, vb0, vb1, vb2, vb3, vb4, vb5, vb6, vb7, l_quote_Unquote_1, u_inv, hib, hg, f1, u_fail]
  by_cases h10 : c.toNat = 10
  · have f1 : ((c.toNat : Int) = 10) := by omega
    have hq : uqStep (c :: s.drop (i + 1)) = none := by simp [uqStep, h10]
    rw [hq]
    simp -implicitDefEqProofs (maxSteps := 1000000) (disch := omega) only [↓Int.reduceLT, ↓Int.reduceLE, ↓Int.reduceEq, ↓Nat.reduceEqDiff, Nat.reduceBEq, ↓reduceIte, St.toRS, restrict, initEnv, plainArgs, reduceCtorEq, Nat.reduceEqDiff, Nat.reduceAdd, Nat.reduceMul, Int.reduceLT, Int.reduceLE, Int.reduceEq, Int.reduceNeg, Int.reduceAdd, Int.reduceToNat, Int.reduceNe, Nat.reduceSub, Int.reducePow, Int.reduceMul, vb0, vb1, vb2, vb3, vb4, vb5, vb6, vb7, l_quote_Unquote_1, u_inv, hib, hg, f1, u_fail]
  have g1 : ¬ ((c.toNat : Int) = 34) := by omega
  have g2 : ¬ ((c.toNat : Int) = 10) := by omega
  by_cases h92 : c.toNat = 92
  · have g3 : ((c.toNat : Int) = 92) := by omega
    by_cases hl : i + 1 = s.length
    · have f1 : ((i + 1 : Nat) : Int) = s.length := by omega
      have hq : uqStep (c :: s.drop (i + 1)) = none := by
        rw [hl, List.drop_length]
        simp [uqStep, h92]
      rw [hq]
      simp -implicitDefEqProofs (maxSteps := 1000000) (disch := omega) only [↓Int.reduceLT, ↓Int.reduceLE, ↓Int.reduceEq, ↓Nat.reduceEqDiff, Nat.reduceBEq, ↓reduceIte, St.toRS, restrict, initEnv, plainArgs, reduceCtorEq, Nat.reduceEqDiff, Nat.reduceAdd, Nat.reduceMul, Int.reduceLT, Int.reduceLE, Int.reduceEq, Int.reduceNeg, Int.reduceAdd, Int.reduceToNat, Int.reduceNe, Nat.reduceSub, Int.reducePow, Int.reduceMul, vb0, vb1, vb2, vb3, vb4, vb5, vb6, vb7, l_quote_Unquote_1, u_inv, hib, hg, g1, g2, g3, w1, f1, u_fail]
    have f1 : ¬ ((i + 1 : Nat) : Int) = s.length := by omega
    have hi1 : i + 1 < s.length := by omega
    have hg1 : s[i + 1]? = some s[i + 1] := by simp [hi1]
    have hdrop1 : s.drop (i + 1) = s[i + 1] :: s.drop (i + 2) := List.drop_eq_getElem_cons hi1
    rw [hdrop1]
    generalize hd : s[i + 1] = d at hg1 ⊢
    have hdlt : d.toNat < 256 := d.toNat_lt
    by_cases d34 : d.toNat = 34
    · have k1 : ((d.toNat : Int) = 34) := by omega
      have hq : uqStep (c :: d :: s.drop (i + 2)) = some (d, 2) := by simp [uqStep, h92, d34]
      rw [hq]
      simp -implicitDefEqProofs (maxSteps := 1000000) (disch := omega) only [↓Int.reduceLT, ↓Int.reduceLE, ↓Int.reduceEq, ↓Nat.reduceEqDiff, Nat.reduceBEq, ↓reduceIte, St.toRS, restrict, initEnv, plainArgs, reduceCtorEq, Nat.reduceEqDiff, Nat.reduceAdd, Nat.reduceMul, Int.reduceLT, Int.reduceLE, Int.reduceEq, Int.reduceNeg, Int.reduceAdd, Int.reduceToNat, Int.reduceNe, Nat.reduceSub, Int.reducePow, Int.reduceMul, vb0, vb1, vb2, vb3, vb4, vb5, vb6, vb7, l_quote_Unquote_1, u_inv, hib, hg, g1, g2, g3, w1, f1, hg1, k1, w2, o1, bytesD_length, bytesD_append, bytesD_cons, bytesD_nil, byteD]
    by_cases d92 : d.toNat = 92
    · have k1 : ((d.toNat : Int) = 92) := by omega
      have hq : uqStep (c :: d :: s.drop (i + 2)) = some (d, 2) := by simp [uqStep, h92, d92]
      rw [hq]
      simp -implicitDefEqProofs (maxSteps := 1000000) (disch := omega) only [↓Int.reduceLT, ↓Int.reduceLE, ↓Int.reduceEq, ↓Nat.reduceEqDiff, Nat.reduceBEq, ↓reduceIte, St.toRS, restrict, initEnv, plainArgs, reduceCtorEq, Nat.reduceEqDiff, Nat.reduceAdd, Nat.reduceMul, Int.reduceLT, Int.reduceLE, Int.reduceEq, Int.reduceNeg, Int.reduceAdd, Int.reduceToNat, Int.reduceNe, Nat.reduceSub, Int.reducePow, Int.reduceMul, vb0, vb1, vb2, vb3, vb4, vb5, vb6, vb7, l_quote_Unquote_1, u_inv, hib, hg, g1, g2, g3, w1, f1, hg1, k1, w2, o1, bytesD_length, bytesD_append, bytesD_cons, bytesD_nil, byteD]
    have m1 : ¬ ((d.toNat : Int) = 34) := by omega
    have m2 : ¬ ((d.toNat : Int) = 92) := by omega
    by_cases d110 : d.toNat = 110
    · have k1 : ((d.toNat : Int) = 110) := by omega
      have hq : uqStep (c :: d :: s.drop (i + 2)) = some (10, 2) := by simp [uqStep, h92, d110]
      rw [hq]
      simp -implicitDefEqProofs (maxSteps := 1000000) (disch := omega) only [↓Int.reduceLT, ↓Int.reduceLE, ↓Int.reduceEq, ↓Nat.reduceEqDiff, Nat.reduceBEq, ↓reduceIte, St.toRS, restrict, initEnv, plainArgs, reduceCtorEq, Nat.reduceEqDiff, Nat.reduceAdd, Nat.reduceMul, Int.reduceLT, Int.reduceLE, Int.reduceEq, Int.reduceNeg, Int.reduceAdd, Int.reduceToNat, Int.reduceNe, Nat.reduceSub, Int.reducePow, Int.reduceMul, vb0, vb1, vb2, vb3, vb4, vb5, vb6, vb7, l_quote_Unquote_1, u_inv, hib, hg, g1, g2, g3, w1, f1, hg1, k1, m1, m2, w2, o1, bytesD_length, bytesD_append, bytesD_cons, bytesD_nil, byteD]
      rfl
    by_cases d116 : d.toNat = 116
    · have k1 : ((d.toNat : Int) = 116) := by omega
      have hq : uqStep (c :: d :: s.drop (i + 2)) = some (9, 2) := by simp [uqStep, h92, d116]
      rw [hq]
      simp -implicitDefEqProofs (maxSteps := 1000000) (disch := omega) only [↓Int.reduceLT, ↓Int.reduceLE, ↓Int.reduceEq, ↓Nat.reduceEqDiff, Nat.reduceBEq, ↓reduceIte, St.toRS, restrict, initEnv, plainArgs, reduceCtorEq, Nat.reduceEqDiff, Nat.reduceAdd, Nat.reduceMul, Int.reduceLT, Int.reduceLE, Int.reduceEq, Int.reduceNeg, Int.reduceAdd, Int.reduceToNat, Int.reduceNe, Nat.reduceSub, Int.reducePow, Int.reduceMul, vb0, vb1, vb2, vb3, vb4, vb5, vb6, vb7, l_quote_Unquote_1, u_inv, hib, hg, g1, g2, g3, w1, f1, hg1, k1, m1, m2, w2, o1, bytesD_length, bytesD_append, bytesD_cons, bytesD_nil, byteD]
      rfl
    by_cases d114 : d.toNat = 114
    · have k1 : ((d.toNat : Int) = 114) := by omega
      have hq : uqStep (c :: d :: s.drop (i + 2)) = some (13, 2) := by simp [uqStep, h92, d114]
      rw [hq]
      simp -implicitDefEqProofs (maxSteps := 1000000) (disch := omega) only [↓Int.reduceLT, ↓Int.reduceLE, ↓Int.reduceEq, ↓Nat.reduceEqDiff, Nat.reduceBEq, ↓reduceIte, St.toRS, restrict, initEnv, plainArgs, reduceCtorEq, Nat.reduceEqDiff, Nat.reduceAdd, Nat.reduceMul, Int.reduceLT, Int.reduceLE, Int.reduceEq, Int.reduceNeg, Int.reduceAdd, Int.reduceToNat, Int.reduceNe, Nat.reduceSub, Int.reducePow, Int.reduceMul, vb0, vb1, vb2, vb3, vb4, vb5, vb6, vb7, l_quote_Unquote_1, u_inv, hib, hg, g1, g2, g3, w1, f1, hg1, k1, m1, m2, w2, o1, bytesD_length, bytesD_append, bytesD_cons, bytesD_nil, byteD]
      rfl
    have m3 : ¬ ((d.toNat : Int) = 110) := by omega
    have m4 : ¬ ((d.toNat : Int) = 116) := by omega
    have m5 : ¬ ((d.toNat : Int) = 114) := by omega
    by_cases d120 : d.toNat = 120
    · have k1 : ((d.toNat : Int) = 120) := by omega
      have ws : IntKind.i64.wrap ((s.length : Int) - ((i + 1 : Nat) : Int)) = (s.length : Int) - ((i + 1 : Nat) : Int) := wrap_i64 (by omega) (by omega)
      by_cases hl3 : s.length < i + 4
      · have k2 : ((s.length : Int) - ((i + 1 : Nat) : Int)) < 3 := by omega
        have hq : uqStep (c :: d :: s.drop (i + 2)) = none := by
          have hlen : (s.drop (i + 2)).length < 2 := by simp; omega
          match hx : s.drop (i + 2), hlen with
          | [], _ => simp [uqStep, h92, d120]
          | [x], _ => simp [uqStep, h92, d120]
        rw [hq]
        simp -implicitDefEqProofs (maxSteps := 1000000) (disch := omega) only [↓Int.reduceLT, ↓Int.reduceLE, ↓Int.reduceEq, ↓Nat.reduceEqDiff, Nat.reduceBEq, ↓reduceIte, St.toRS, restrict, initEnv, plainArgs, reduceCtorEq, Nat.reduceEqDiff, Nat.reduceAdd, Nat.reduceMul, Int.reduceLT, Int.reduceLE, Int.reduceEq, Int.reduceNeg, Int.reduceAdd, Int.reduceToNat, Int.reduceNe, Nat.reduceSub, Int.reducePow, Int.reduceMul, vb0, vb1, vb2, vb3, vb4, vb5, vb6, vb7, l_quote_Unquote_1, u_inv, hib, hg, g1, g2, g3, w1, f1, hg1, k1, m1, m2, m3, m4, m5, ws, k2, u_fail]
      have k2 : ¬ ((s.length : Int) - ((i + 1 : Nat) : Int)) < 3 := by omega
      have hi2 : i + 2 < s.length := by omega
      have hi3 : i + 3 < s.length := by omega
      have hg2 : s[i + 2]? = some s[i + 2] := by simp [hi2]
      have hg3 : s[i + 3]? = some s[i + 3] := by simp [hi3]
      have hdrop2 : s.drop (i + 2) = s[i + 2] :: s[i + 3] :: s.drop (i + 4) := by
        rw [List.drop_eq_getElem_cons hi2, List.drop_eq_getElem_cons hi3]
      rw [hdrop2]
      generalize hx : s[i + 2] = x at hg2 ⊢
      generalize hy : s[i + 3] = y at hg3 ⊢
      have sx := digit_spec x.toNat x.toNat_lt
      have sy := digit_spec y.toNat y.toNat_lt
      simp only [n_quote_Digit] at sx sy
      have rx := hexI_range x.toNat
      have ry := hexI_range y.toNat
      by_cases hx0 : hexI x.toNat < 0
      · have hq : uqStep (c :: d :: x :: y :: s.drop (i + 4)) = none := by simp [uqStep, h92, d120, hx0]
        rw [hq]
        simp -implicitDefEqProofs (maxSteps := 1000000) (disch := omega) only [↓Int.reduceLT, ↓Int.reduceLE, ↓Int.reduceEq, ↓Nat.reduceEqDiff, Nat.reduceBEq, ↓reduceIte, St.toRS, restrict, initEnv, plainArgs, reduceCtorEq, Nat.reduceEqDiff, Nat.reduceAdd, Nat.reduceMul, Int.reduceLT, Int.reduceLE, Int.reduceEq, Int.reduceNeg, Int.reduceAdd, Int.reduceToNat, Int.reduceNe, Nat.reduceSub, Int.reducePow, Int.reduceMul, vb0, vb1, vb2, vb3, vb4, vb5, vb6, vb7, l_quote_Unquote_1, u_inv, hib, hg, g1, g2, g3, w1, w2, w3, f1, hg1, k1, m1, m2, m3, m4, m5, ws, k2, hg2, hg3, sx, sy, hx0, u_fail]
      by_cases hy0 : hexI y.toNat < 0
      · have hq : uqStep (c :: d :: x :: y :: s.drop (i + 4)) = none := by simp [uqStep, h92, d120, hy0]
        rw [hq]
        simp -implicitDefEqProofs (maxSteps := 1000000) (disch := omega) only [↓Int.reduceLT, ↓Int.reduceLE, ↓Int.reduceEq, ↓Nat.reduceEqDiff, Nat.reduceBEq, ↓reduceIte, St.toRS, restrict, initEnv, plainArgs, reduceCtorEq, Nat.reduceEqDiff, Nat.reduceAdd, Nat.reduceMul, Int.reduceLT, Int.reduceLE, Int.reduceEq, Int.reduceNeg, Int.reduceAdd, Int.reduceToNat, Int.reduceNe, Nat.reduceSub, Int.reducePow, Int.reduceMul, vb0, vb1, vb2, vb3, vb4, vb5, vb6, vb7, l_quote_Unquote_1, u_inv, hib, hg, g1, g2, g3, w1, w2, w3, f1, hg1, k1, m1, m2, m3, m4, m5, ws, k2, hg2, hg3, sx, sy, hx0, hy0, u_fail]
      have hor := or_hex ⟨(hexI x.toNat).toNat, by omega⟩ ⟨(hexI y.toNat).toNat, by omega⟩
      simp only [Int.toNat_of_nonneg (show 0 ≤ hexI x.toNat by omega), Int.toNat_of_nonneg (show 0 ≤ hexI y.toNat by omega)] at hor
      have q1 : IntKind.i64.wrap (hexI x.toNat * 16) = hexI x.toNat * 16 := wrap_i64 (by omega) (by omega)
      have q2 : IntKind.u8.wrap (hexI x.toNat * 16 + hexI y.toNat) = hexI x.toNat * 16 + hexI y.toNat := wrap_u8 (by omega) (by omega)
      have hq : uqStep (c :: d :: x :: y :: s.drop (i + 4)) = some (UInt8.ofNat (hexI x.toNat * 16 + hexI y.toNat).toNat, 4) := by simp [uqStep, h92, d120, hx0, hy0]
      have hb : byteD (UInt8.ofNat (hexI x.toNat * 16 + hexI y.toNat).toNat) = .int .u8 (hexI x.toNat * 16 + hexI y.toNat) := by
        simp only [byteD]
        rw [toNat_ofNatU _ (by omega), Int.toNat_of_nonneg (by omega)]
      rw [hq]
      simp -implicitDefEqProofs (maxSteps := 1000000) (disch := omega) only [↓Int.reduceLT, ↓Int.reduceLE, ↓Int.reduceEq, ↓Nat.reduceEqDiff, Nat.reduceBEq, ↓reduceIte, St.toRS, restrict, initEnv, plainArgs, reduceCtorEq, Nat.reduceEqDiff, Nat.reduceAdd, Nat.reduceMul, Int.reduceLT, Int.reduceLE, Int.reduceEq, Int.reduceNeg, Int.reduceAdd, Int.reduceToNat, Int.reduceNe, Nat.reduceSub, Int.reducePow, Int.reduceMul, vb0, vb1, vb2, vb3, vb4, vb5, vb6, vb7, l_quote_Unquote_1, u_inv, hib, hg, g1, g2, g3, w1, w2, w3, w4, f1, hg1, k1, m1, m2, m3, m4, m5, ws, k2, hg2, hg3, sx, sy, hx0, hy0, q1, hor, q2, o1, bytesD_length, bytesD_append, bytesD_cons, bytesD_nil, hb]
    · have k1 : ¬ ((d.toNat : Int) = 120) := by omega
      have hq : uqStep (c :: d :: s.drop (i + 2)) = none := by simp [uqStep, h92, d34, d92, d110, d116, d114, d120]
      rw [hq]
      simp -implicitDefEqProofs (maxSteps := 1000000) (disch := omega) only [↓Int.reduceLT, ↓Int.reduceLE, ↓Int.reduceEq, ↓Nat.reduceEqDiff, Nat.reduceBEq, ↓reduceIte, St.toRS, restrict, initEnv, plainArgs, reduceCtorEq, Nat.reduceEqDiff, Nat.reduceAdd, Nat.reduceMul, Int.reduceLT, Int.reduceLE, Int.reduceEq, Int.reduceNeg, Int.reduceAdd, Int.reduceToNat, Int.reduceNe, Nat.reduceSub, Int.reducePow, Int.reduceMul, vb0, vb1, vb2, vb3, vb4, vb5, vb6, vb7, l_quote_Unquote_1, u_inv, hib, hg, g1, g2, g3, w1, f1, hg1, k1, m1, m2, m3, m4, m5, u_fail]
  · have g3 : ¬ ((c.toNat : Int) = 92) := by omega
    have hq : uqStep (c :: s.drop (i + 1)) = some (c, 1) := by simp [uqStep, h34, h10, h92]
    rw [hq]
    simp -implicitDefEqProofs (maxSteps := 1000000) (disch := omega) only [↓Int.reduceLT, ↓Int.reduceLE, ↓Int.reduceEq, ↓Nat.reduceEqDiff, Nat.reduceBEq, ↓reduceIte, St.toRS, restrict, initEnv, plainArgs, reduceCtorEq, Nat.reduceEqDiff, Nat.reduceAdd, Nat.reduceMul, Int.reduceLT, Int.reduceLE, Int.reduceEq, Int.reduceNeg, Int.reduceAdd, Int.reduceToNat, Int.reduceNe, Nat.reduceSub, Int.reducePow, Int.reduceMul, vb0, vb1, vb2, vb3, vb4, vb5, vb6, vb7, l_quote_Unquote_1, u_inv, hib, hg, g1, g2, g3, w1, o1, bytesD_length, bytesD_append, bytesD_cons, bytesD_nil, byteD]
end Go.Proofs.YtedncpnkbpbchaaGreatDoor
namespace Go.Proofs.YtedncpnkbpbchaaGreatDoor
open Go.Vi

def u_end (s out : List UInt8) : St := { env := [(0, .d (.str s)), (4, .own 1 (bytesD out)), (5, .d (.int .i64 s.length)), (37, .d (.bool false))], bx := [] }
def u_out (s out : List UInt8) : Option (List UInt8) → Option (Ex × St)
  | none => u_fail
  | some bs => some (.exit 0, u_end s (out ++ bs))

theorem u_loop (s : List UInt8) (hs : s.length ≤ 65536) : ∀ (n i : Nat) (out : List UInt8), s.length - i ≤ n → i ≤ s.length → out.length ≤ i → X M (.loop l_quote_Unquote_1) (u_inv s out i) = u_out s out (unqF n (s.drop i)) := by
  have last : ∀ out, X M (.loop l_quote_Unquote_1) (u_inv s out s.length) = some (.exit 0, u_end s out) := fun out => by
    refine loop_exit ?_ (by simp)
    have h1 : ¬ ((s.length : Int) < s.length) := by omega
    simp -implicitDefEqProofs (maxSteps := 1000000) (disch := omega) only [↓Int.reduceLT, ↓Int.reduceLE, ↓Int.reduceEq, ↓Nat.reduceEqDiff, Nat.reduceBEq, ↓reduceIte, St.toRS, restrict, initEnv, plainArgs, reduceCtorEq, Nat.reduceEqDiff, Nat.reduceAdd, Nat.reduceMul, Int.reduceLT, Int.reduceLE, Int.reduceEq, Int.reduceNeg, Int.reduceAdd, Int.reduceToNat, Int.reduceNe, Nat.reduceSub, Int.reducePow, Int.reduceMul, vb0, vb1, vb2, vb3, vb4, vb5, vb6, vb7, l_quote_Unquote_1, u_inv, u_end, h1]
  intro n
  induction n with
  | zero =>
    intro i out h1 h2 h3
    obtain rfl : i = s.length := by omega
    rw [last, List.drop_length]
    simp [unqF, u_out]
  | succ n ih =>
    intro i out h1 h2 h3
    by_cases hi : i < s.length
    · have hdrop : s.drop i = s[i] :: s.drop (i + 1) := List.drop_eq_getElem_cons hi
      have hr := u_round s out i hs (by omega) hi
      rw [X_loop, hr]
      cases hq : uqStep (s.drop i) with
      | none =>
        rw [hdrop] at hq ⊢
        simp only [unqF, hq, u_out, u_fail, andThen]
      | some p =>
        obtain ⟨b, k⟩ := p
        have hk := uqStep_len hq
        simp only [List.length_drop] at hk
        simp only [andThen]
        rw [ih (i + k) (out ++ [b]) (by omega) (by omega) (by simp; omega)]
        rw [hdrop] at hq
        rw [hdrop]
        simp only [unqF, hq]
        rw [← hdrop, List.drop_drop]
        cases unqF n (s.drop (i + k)) with
        | none => rfl
        | some bs => simp only [u_out, Option.map_some, List.append_assoc, List.singleton_append]
    · obtain rfl : i = s.length := by omega
      rw [last, List.drop_length]
      simp [unqF, u_out]

/-- What Unquote answers: the bytes, the error. -/
def unquoteL (t : List UInt8) : List UInt8 × Int :=
  if 65536 < t.length then ([], 1)
  else if t.length < 2 ∨ t[0]? ≠ some 34 ∨ t[t.length - 1]? ≠ some 34 then ([], 11)
  else match unq ((t.take (t.length - 1)).drop 1) with
    | none => ([], 11)
    | some bs => (bs, 0)

theorem u8_eq (c : UInt8) (n : Nat) (hn : n < 256) : c = UInt8.ofNat n ↔ c.toNat = n := by
  constructor
  · rintro rfl; exact toNat_ofNatU n hn
  · intro h; rw [← h]; simp

theorem unqF_le : ∀ (n : Nat) (s bs : List UInt8), unqF n s = some bs → bs.length ≤ s.length
  | n, [], bs, h => by
    cases n <;> (simp [unqF] at h; subst h; simp)
  | 0, c :: r, bs, h => by simp [unqF] at h
  | n + 1, c :: r, bs, h => by
    simp only [unqF] at h
    cases hs : uqStep (c :: r) with
    | none => rw [hs] at h; cases h
    | some p =>
      obtain ⟨b, k⟩ := p
      rw [hs] at h
      simp only [Option.map_eq_some_iff] at h
      obtain ⟨x, hx, rfl⟩ := h
      have := unqF_le n _ x hx
      have := uqStep_len hs
      simp only [List.length_drop, List.length_cons] at *
      omega

theorem unquote_spec (t : List UInt8) (ht : t.length ≤ 140737488355328) : C M n_quote_Unquote [.d (.str t)] = some (.tup [.slice 1 (bytesD (unquoteL t).1), .int .i64 (unquoteL t).2]) := by
  rw [c_fn (sf := f_quote_Unquote) rfl rfl ⟨rfl, rfl⟩]
  by_cases hbig : 65536 < t.length
  · have f1 : (65536 : Int) < t.length := by omega
    have e : unquoteL t = ([], 1) := by simp [unquoteL, hbig]
    simp -implicitDefEqProofs (maxSteps := 1000000) (disch := omega) only [↓Int.reduceLT, ↓Int.reduceLE, ↓Int.reduceEq, ↓Nat.reduceEqDiff, Nat.reduceBEq, ↓reduceIte, St.toRS, restrict, initEnv, plainArgs, reduceCtorEq, Nat.reduceEqDiff, Nat.reduceAdd, Nat.reduceMul, Int.reduceLT, Int.reduceLE, Int.reduceEq, Int.reduceNeg, Int.reduceAdd, Int.reduceToNat, Int.reduceNe, Nat.reduceSub, Int.reducePow, Int.reduceMul, vb0, vb1, vb2, vb3, vb4, vb5, vb6, vb7, f_quote_Unquote, f1, e, bytesD_nil]
  have f1 : ¬ (65536 : Int) < t.length := by omega
  by_cases h2 : t.length < 2
  · have f2 : (t.length : Int) < 2 := by omega
    have e : unquoteL t = ([], 11) := by simp [unquoteL, hbig, h2]
    simp -implicitDefEqProofs (maxSteps := 1000000) (disch := omega) only [↓Int.reduceLT, ↓Int.reduceLE, ↓Int.reduceEq, ↓Nat.reduceEqDiff, Nat.reduceBEq, ↓reduceIte, St.toRS, restrict, initEnv, plainArgs, reduceCtorEq, Nat.reduceEqDiff, Nat.reduceAdd, Nat.reduceMul, Int.reduceLT, Int.reduceLE, Int.reduceEq, Int.reduceNeg, Int.reduceAdd, Int.reduceToNat, Int.reduceNe, Nat.reduceSub, Int.reducePow, Int.reduceMul, vb0, vb1, vb2, vb3, vb4, vb5, vb6, vb7, f_quote_Unquote, f1, f2, e, bytesD_nil]
  have f2 : ¬ (t.length : Int) < 2 := by omega
  have hg0 : t[0]? = some (t[0]'(by omega)) := by simp
  have hgl : t[t.length - 1]? = some (t[t.length - 1]'(by omega)) := by simp
  have w1 : IntKind.i64.wrap ((t.length : Int) - 1) = ((t.length - 1 : Nat) : Int) := by rw [wrap_i64 (by omega) (by omega)]; omega
  by_cases q0 : (t[0]'(by omega)).toNat = 34
  · have f3 : (((t[0]'(by omega)).toNat : Int) = 34) := by omega
    by_cases ql : (t[t.length - 1]'(by omega)).toNat = 34
    · have f4 : (((t[t.length - 1]'(by omega)).toNat : Int) = 34) := by omega
      have e0 : t[0]'(by omega) = 34 := by rw [show (34 : UInt8) = UInt8.ofNat 34 from rfl, u8_eq _ _ (by omega)]; exact q0
      have el : t[t.length - 1]'(by omega) = 34 := by rw [show (34 : UInt8) = UInt8.ofNat 34 from rfl, u8_eq _ _ (by omega)]; exact ql
      have e : unquoteL t = match unq ((t.take (t.length - 1)).drop 1) with | none => ([], 11) | some bs => (bs, 0) := by
        simp only [unquoteL, hbig, h2, hg0, hgl, e0, el, if_false, ne_eq, not_true_eq_false, or_self]
      have g1 : 1 ≤ t.length - 1 ∧ t.length - 1 ≤ t.length := by omega
      generalize hs : (t.take (t.length - 1)).drop 1 = s at e
      have hsl : s.length = t.length - 2 := by rw [← hs]; simp; omega
      have hl := u_loop s (by omega) s.length 0 [] (by omega) (by omega) (by simp)
      simp only [u_inv, bytesD_nil, List.drop_zero] at hl
      have a0 : (0 : Int) ≤ (s.length : Int) := by omega
      have a2 : ((1 : Nat) : Int) * (s.length : Int) ≤ 281474976710656 := by omega
      have a3 : (s.length : Int) ≤ 9223372036854775807 := by omega
      have hl' : X M (.loop l_quote_Unquote_1) { env := [(0, .d (.str s)), (4, .own 1 []), (5, .d (.int .i64 0))], bx := [] } = u_out s [] (unq s) := hl
      cases hu : unq s with
      | none =>
        rw [hu] at hl' e
        simp only [u_out] at hl'
        simp -implicitDefEqProofs (maxSteps := 1000000) (disch := omega) only [↓Int.reduceLT, ↓Int.reduceLE, ↓Int.reduceEq, ↓Nat.reduceEqDiff, Nat.reduceBEq, ↓reduceIte, St.toRS, restrict, initEnv, plainArgs, reduceCtorEq, Nat.reduceEqDiff, Nat.reduceAdd, Nat.reduceMul, Int.reduceLT, Int.reduceLE, Int.reduceEq, Int.reduceNeg, Int.reduceAdd, Int.reduceToNat, Int.reduceNe, Nat.reduceSub, Int.reducePow, Int.reduceMul, vb0, vb1, vb2, vb3, vb4, vb5, vb6, vb7, f_quote_Unquote, f1, f2, hg0, f3, w1, hgl, f4, g1, hs, a0, a2, a3, hl', u_fail, e, bytesD_nil]
      | some bs =>
        rw [hu] at hl' e
        have hbl := unqF_le _ _ _ hu
        simp only [u_out, List.nil_append, u_end] at hl'
        have a4 : (0 : Int) ≤ (bs.length : Int) := by omega
        have a5 : ((1 : Nat) : Int) * (bs.length : Int) ≤ 281474976710656 := by omega
        have a6 : (bs.length : Int) ≤ 9223372036854775807 := by omega
        have a7 : bs.length ≤ 140737488355328 := by omega
        simp -implicitDefEqProofs (maxSteps := 1000000) (disch := omega) only [↓Int.reduceLT, ↓Int.reduceLE, ↓Int.reduceEq, ↓Nat.reduceEqDiff, Nat.reduceBEq, ↓reduceIte, St.toRS, restrict, initEnv, plainArgs, reduceCtorEq, Nat.reduceEqDiff, Nat.reduceAdd, Nat.reduceMul, Int.reduceLT, Int.reduceLE, Int.reduceEq, Int.reduceNeg, Int.reduceAdd, Int.reduceToNat, Int.reduceNe, Nat.reduceSub, Int.reducePow, Int.reduceMul, vb0, vb1, vb2, vb3, vb4, vb5, vb6, vb7, f_quote_Unquote, f1, f2, hg0, f3, w1, hgl, f4, g1, hs, a0, a2, a3, hl', e, bytesD_length, a4, a5, a6, a7]
    · have f4 : ¬ (((t[t.length - 1]'(by omega)).toNat : Int) = 34) := by omega
      have el : t[t.length - 1]'(by omega) ≠ 34 := by
        intro h; apply ql; rw [h]; rfl
      have e : unquoteL t = ([], 11) := by simp [unquoteL, hbig, h2, hgl, el]
      simp -implicitDefEqProofs (maxSteps := 1000000) (disch := omega) only [↓Int.reduceLT, ↓Int.reduceLE, ↓Int.reduceEq, ↓Nat.reduceEqDiff, Nat.reduceBEq, ↓reduceIte, St.toRS, restrict, initEnv, plainArgs, reduceCtorEq, Nat.reduceEqDiff, Nat.reduceAdd, Nat.reduceMul, Int.reduceLT, Int.reduceLE, Int.reduceEq, Int.reduceNeg, Int.reduceAdd, Int.reduceToNat, Int.reduceNe, Nat.reduceSub, Int.reducePow, Int.reduceMul, vb0, vb1, vb2, vb3, vb4, vb5, vb6, vb7, f_quote_Unquote, f1, f2, hg0, f3, w1, hgl, f4, e, bytesD_nil]
  · have f3 : ¬ (((t[0]'(by omega)).toNat : Int) = 34) := by omega
    have e0 : t[0]'(by omega) ≠ 34 := by
      intro h; apply q0; rw [h]; rfl
    have e : unquoteL t = ([], 11) := by simp [unquoteL, hbig, h2, hg0, e0]
    simp -implicitDefEqProofs (maxSteps := 1000000) (disch := omega) only [↓Int.reduceLT, ↓Int.reduceLE, ↓Int.reduceEq, ↓Nat.reduceEqDiff, Nat.reduceBEq, ↓reduceIte, St.toRS, restrict, initEnv, plainArgs, reduceCtorEq, Nat.reduceEqDiff, Nat.reduceAdd, Nat.reduceMul, Int.reduceLT, Int.reduceLE, Int.reduceEq, Int.reduceNeg, Int.reduceAdd, Int.reduceToNat, Int.reduceNe, Nat.reduceSub, Int.reducePow, Int.reduceMul, vb0, vb1, vb2, vb3, vb4, vb5, vb6, vb7, f_quote_Unquote, f1, f2, hg0, f3, w1, e, bytesD_nil]
end Go.Proofs.YtedncpnkbpbchaaGreatDoor
namespace Go.Proofs.YtedncpnkbpbchaaGreatDoor
open Go.Vi

/-! ### Back -/
theorem hexD_back : ∀ n : Fin 16, hexI (hexD n.val).toNat = n.val := by decide +kernel
theorem hexD_printed : ∀ n : Fin 16, 32 ≤ (hexD n.val).toNat ∧ (hexD n.val).toNat ≤ 126 := by decide +kernel

theorem step_back (c : UInt8) (t : List UInt8) : uqStep (qByte c ++ t) = some (c, (qByte c).length) := by
  have hc := c.toNat_lt
  unfold qByte
  by_cases h1 : c.toNat = 34 ∨ c.toNat = 92
  · simp only [h1, if_true, List.cons_append, List.nil_append, List.length_cons, List.length_nil]
    simp [uqStep, h1]
  simp only [h1, if_false]
  by_cases h2 : c.toNat = 10
  · simp only [h2, if_true, List.cons_append, List.nil_append, List.length_cons, List.length_nil]
    have : c = 10 := by rw [show (10 : UInt8) = UInt8.ofNat 10 from rfl, u8_eq _ _ (by omega)]; exact h2
    simp [uqStep, this]
  simp only [h2, if_false]
  by_cases h3 : c.toNat = 9
  · simp only [h3, if_true, List.cons_append, List.nil_append, List.length_cons, List.length_nil]
    have : c = 9 := by rw [show (9 : UInt8) = UInt8.ofNat 9 from rfl, u8_eq _ _ (by omega)]; exact h3
    simp [uqStep, this]
  simp only [h3, if_false]
  by_cases h4 : c.toNat = 13
  · simp only [h4, if_true, List.cons_append, List.nil_append, List.length_cons, List.length_nil]
    have : c = 13 := by rw [show (13 : UInt8) = UInt8.ofNat 13 from rfl, u8_eq _ _ (by omega)]; exact h4
    simp [uqStep, this]
  simp only [h4, if_false]
  by_cases h5 : c.toNat < 32 ∨ 126 < c.toNat
  · simp only [h5, if_true, List.cons_append, List.nil_append, List.length_cons, List.length_nil]
    have x1 := hexD_back ⟨c.toNat / 16, by omega⟩
    have x2 := hexD_back ⟨c.toNat % 16, by omega⟩
    simp only at x1 x2
    have : (UInt8.ofNat ((c.toNat / 16 : Nat) * 16 + (c.toNat % 16 : Nat) : Int).toNat) = c := by
      have : ((c.toNat / 16 : Nat) * 16 + (c.toNat % 16 : Nat) : Int).toNat = c.toNat := by omega
      rw [this]; simp
    simp only [uqStep, x1, x2]
    rw [if_neg (by decide), if_neg (by decide), if_neg (by decide), if_neg (by decide), if_neg (by decide), if_neg (by decide), if_pos (by decide), if_neg (by omega), this]
  · simp only [h5, if_false, List.cons_append, List.nil_append, List.length_cons, List.length_nil]
    have g1 : ¬ (c.toNat = 34 ∨ c.toNat = 10) := by omega
    have g2 : c.toNat ≠ 92 := by omega
    simp [uqStep, g1, g2]

theorem unqF_back : ∀ (a : List UInt8) (n : Nat), (a.flatMap qByte).length ≤ n → unqF n (a.flatMap qByte) = some a
  | [], n, _ => by cases n <;> rfl
  | c :: a, n, h => by
    have hs := step_back c (a.flatMap qByte)
    simp only [List.flatMap_cons, List.length_append] at h ⊢
    have hpos : 1 ≤ (qByte c).length := by
      have := uqStep_len hs; omega
    match n, h with
    | n + 1, h =>
      match hq : qByte c ++ a.flatMap qByte, hs with
      | x :: r, hs =>
        simp only [unqF, hs]
        rw [← hq, List.drop_left, unqF_back a n (by omega)]
        rfl
    | 0, h => omega

theorem unquote_back (a : List UInt8) (h : (quoteL a).length ≤ 65536) : unquoteL (quoteL a) = (a, 0) := by
  have hl : (quoteL a).length = (a.flatMap qByte).length + 2 := by simp [quoteL]
  have hu : unq (((quoteL a).take ((quoteL a).length - 1)).drop 1) = some a := by
    have e : ((quoteL a).take ((quoteL a).length - 1)).drop 1 = a.flatMap qByte := by
      rw [hl, quoteL]
      simp
    rw [e]
    exact unqF_back a _ (Nat.le_refl _)
  have g0 : (quoteL a)[0]? = some 34 := by simp [quoteL]
  have gl : (quoteL a)[(quoteL a).length - 1]? = some 34 := by
    rw [hl, quoteL]
    rw [show (a.flatMap qByte).length + 2 - 1 = (a.flatMap qByte).length + 1 by omega, List.getElem?_cons_succ]
    simp
  simp only [unquoteL, show ¬ 65536 < (quoteL a).length by omega, show ¬ (quoteL a).length < 2 by omega, g0, gl, hu, if_false, ne_eq, not_true_eq_false, or_self]

end Go.Proofs.YtedncpnkbpbchaaGreatDoor
