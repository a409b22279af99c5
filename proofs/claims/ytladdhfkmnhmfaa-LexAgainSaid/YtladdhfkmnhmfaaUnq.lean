/-
  What quote.Digit and quote.Unquote answer: over data.
-/
import Derived.Test.YtladdhfkmnhmfaaChars
set_option linter.unusedVariables false
set_option linter.unusedSimpArgs false
set_option maxRecDepth 100000
set_option maxHeartbeats 8000000
namespace Go.Proofs.Ytladdhfkmnhmfaa
open Go.Vi
variable {m : Int}

theorem dg_spec (n : Nat) (hn : n < 256) : C (M m) n_quote_Digit [.d (.int .u8 n)] = some (.d (.int .i64 (hexI n))) := by
  rw [c_fn (sf := f_quote_Digit) rfl rfl ⟨rfl, rfl⟩]
  by_cases a : 48 ≤ n ∧ n ≤ 57
  · have f1 : (48 : Int) ≤ n := by omega
    have f2 : (n : Int) ≤ 57 := by omega
    have e : hexI n = n - 48 := by simp [hexI, a]
    have w1 : IntKind.u8.wrap ((n : Int) - 48) = n - 48 := wrap_u8 (by omega) (by omega)
    have w2 : IntKind.i64.wrap ((n : Int) - 48) = n - 48 := wrap_i64 (by omega) (by omega)
    simp -implicitDefEqProofs (maxSteps := 1000000) (disch := omega) only [↓Int.reduceLT, ↓Int.reduceLE, ↓Int.reduceEq, ↓Nat.reduceEqDiff, Nat.reduceBEq, ↓reduceIte, St.toRS, restrict, initEnv, plainArgs, reduceCtorEq, Nat.reduceEqDiff, Nat.reduceAdd, Nat.reduceMul, Int.reduceLT, Int.reduceLE, Int.reduceEq, Int.reduceNeg, Int.reduceAdd, Int.reduceToNat, Int.reduceNe, Nat.reduceSub, Int.reducePow, Int.reduceMul, vb0, vb1, vb2, vb3, vb4, vb5, vb6, vb7, f_quote_Digit, f1, f2, w1, w2, e]
  by_cases b : 97 ≤ n ∧ n ≤ 102
  · have f1 : (48 : Int) ≤ n := by omega
    have f2 : ¬ (n : Int) ≤ 57 := by omega
    have f3 : (97 : Int) ≤ n := by omega
    have f4 : (n : Int) ≤ 102 := by omega
    have e : hexI n = n - 87 := by simp [hexI, a, b]
    have w1 : IntKind.u8.wrap ((n : Int) - 97) = n - 97 := wrap_u8 (by omega) (by omega)
    have w2 : IntKind.i64.wrap ((n : Int) - 97) = n - 97 := wrap_i64 (by omega) (by omega)
    have w3 : IntKind.i64.wrap ((n : Int) - 97 + 10) = n - 87 := by rw [wrap_i64 (by omega) (by omega)]; omega
    simp -implicitDefEqProofs (maxSteps := 1000000) (disch := omega) only [↓Int.reduceLT, ↓Int.reduceLE, ↓Int.reduceEq, ↓Nat.reduceEqDiff, Nat.reduceBEq, ↓reduceIte, St.toRS, restrict, initEnv, plainArgs, reduceCtorEq, Nat.reduceEqDiff, Nat.reduceAdd, Nat.reduceMul, Int.reduceLT, Int.reduceLE, Int.reduceEq, Int.reduceNeg, Int.reduceAdd, Int.reduceToNat, Int.reduceNe, Nat.reduceSub, Int.reducePow, Int.reduceMul, vb0, vb1, vb2, vb3, vb4, vb5, vb6, vb7, f_quote_Digit, f1, f2, f3, f4, w1, w2, w3, e]
  by_cases c : 65 ≤ n ∧ n ≤ 70
  · have f1 : (48 : Int) ≤ n := by omega
    have f2 : ¬ (n : Int) ≤ 57 := by omega
    have f3 : ¬ (97 : Int) ≤ n := by omega
    have f5 : (65 : Int) ≤ n := by omega
    have f6 : (n : Int) ≤ 70 := by omega
    have e : hexI n = n - 55 := by simp [hexI, a, b, c]
    have w1 : IntKind.u8.wrap ((n : Int) - 65) = n - 65 := wrap_u8 (by omega) (by omega)
    have w2 : IntKind.i64.wrap ((n : Int) - 65) = n - 65 := wrap_i64 (by omega) (by omega)
    have w3 : IntKind.i64.wrap ((n : Int) - 65 + 10) = n - 55 := by rw [wrap_i64 (by omega) (by omega)]; omega
    simp -implicitDefEqProofs (maxSteps := 1000000) (disch := omega) only [↓Int.reduceLT, ↓Int.reduceLE, ↓Int.reduceEq, ↓Nat.reduceEqDiff, Nat.reduceBEq, ↓reduceIte, St.toRS, restrict, initEnv, plainArgs, reduceCtorEq, Nat.reduceEqDiff, Nat.reduceAdd, Nat.reduceMul, Int.reduceLT, Int.reduceLE, Int.reduceEq, Int.reduceNeg, Int.reduceAdd, Int.reduceToNat, Int.reduceNe, Nat.reduceSub, Int.reducePow, Int.reduceMul, vb0, vb1, vb2, vb3, vb4, vb5, vb6, vb7, f_quote_Digit, f1, f2, f3, f5, f6, w1, w2, w3, e]
  have e : hexI n = -1 := by simp [hexI, a, b, c]
  by_cases x1 : (48 : Int) ≤ n
  · have y1 : ¬ (n : Int) ≤ 57 := by omega
    by_cases x2 : (97 : Int) ≤ n
    · have y2 : ¬ (n : Int) ≤ 102 := by omega
      have x3 : (65 : Int) ≤ n := by omega
      have y3 : ¬ (n : Int) ≤ 70 := by omega
      simp -implicitDefEqProofs (maxSteps := 1000000) (disch := omega) only [↓Int.reduceLT, ↓Int.reduceLE, ↓Int.reduceEq, ↓Nat.reduceEqDiff, Nat.reduceBEq, ↓reduceIte, St.toRS, restrict, initEnv, plainArgs, reduceCtorEq, Nat.reduceEqDiff, Nat.reduceAdd, Nat.reduceMul, Int.reduceLT, Int.reduceLE, Int.reduceEq, Int.reduceNeg, Int.reduceAdd, Int.reduceToNat, Int.reduceNe, Nat.reduceSub, Int.reducePow, Int.reduceMul, vb0, vb1, vb2, vb3, vb4, vb5, vb6, vb7, f_quote_Digit, x1, y1, x2, y2, x3, y3, e]
    · by_cases x3 : (65 : Int) ≤ n
      · have y3 : ¬ (n : Int) ≤ 70 := by omega
        simp -implicitDefEqProofs (maxSteps := 1000000) (disch := omega) only [↓Int.reduceLT, ↓Int.reduceLE, ↓Int.reduceEq, ↓Nat.reduceEqDiff, Nat.reduceBEq, ↓reduceIte, St.toRS, restrict, initEnv, plainArgs, reduceCtorEq, Nat.reduceEqDiff, Nat.reduceAdd, Nat.reduceMul, Int.reduceLT, Int.reduceLE, Int.reduceEq, Int.reduceNeg, Int.reduceAdd, Int.reduceToNat, Int.reduceNe, Nat.reduceSub, Int.reducePow, Int.reduceMul, vb0, vb1, vb2, vb3, vb4, vb5, vb6, vb7, f_quote_Digit, x1, y1, x2, x3, y3, e]
      · simp -implicitDefEqProofs (maxSteps := 1000000) (disch := omega) only [↓Int.reduceLT, ↓Int.reduceLE, ↓Int.reduceEq, ↓Nat.reduceEqDiff, Nat.reduceBEq, ↓reduceIte, St.toRS, restrict, initEnv, plainArgs, reduceCtorEq, Nat.reduceEqDiff, Nat.reduceAdd, Nat.reduceMul, Int.reduceLT, Int.reduceLE, Int.reduceEq, Int.reduceNeg, Int.reduceAdd, Int.reduceToNat, Int.reduceNe, Nat.reduceSub, Int.reducePow, Int.reduceMul, vb0, vb1, vb2, vb3, vb4, vb5, vb6, vb7, f_quote_Digit, x1, y1, x2, x3, e]
  · have x2 : ¬ (97 : Int) ≤ n := by omega
    have x3 : ¬ (65 : Int) ≤ n := by omega
    simp -implicitDefEqProofs (maxSteps := 1000000) (disch := omega) only [↓Int.reduceLT, ↓Int.reduceLE, ↓Int.reduceEq, ↓Nat.reduceEqDiff, Nat.reduceBEq, ↓reduceIte, St.toRS, restrict, initEnv, plainArgs, reduceCtorEq, Nat.reduceEqDiff, Nat.reduceAdd, Nat.reduceMul, Int.reduceLT, Int.reduceLE, Int.reduceEq, Int.reduceNeg, Int.reduceAdd, Int.reduceToNat, Int.reduceNe, Nat.reduceSub, Int.reducePow, Int.reduceMul, vb0, vb1, vb2, vb3, vb4, vb5, vb6, vb7, f_quote_Digit, x1, x2, x3, e]

/-- One character of a quoted text: the byte, how many characters it takes; none: a fault. -/
def uqStep : List UInt8 → Option (UInt8 × Nat)
  | [] => none
  | c :: r =>
    if c.toNat = 34 ∨ c.toNat = 10 then none
    else if c.toNat ≠ 92 then some (c, 1)
    else match r with
      | [] => none
      | d :: r =>
        if d.toNat = 34 ∨ d.toNat = 92 then some (d, 2)
        else if d.toNat = 110 then some (10, 2)
        else if d.toNat = 116 then some (9, 2)
        else if d.toNat = 114 then some (13, 2)
        else if d.toNat = 120 then
          match r with
          | x :: y :: _ => if hexI x.toNat < 0 ∨ hexI y.toNat < 0 then none else some (UInt8.ofNat (hexI x.toNat * 16 + hexI y.toNat).toNat, 4)
          | _ => none
        else none
/-- The bytes of a quoted text, without its marks. -/
def unqF : Nat → List UInt8 → Option (List UInt8)
  | _, [] => some []
  | 0, _ :: _ => none
  | n + 1, c :: r =>
    match uqStep (c :: r) with
    | none => none
    | some (b, k) => (unqF n ((c :: r).drop k)).map (b :: ·)
def unq (s : List UInt8) : Option (List UInt8) := unqF s.length s

theorem uqStep_len {s : List UInt8} {b : UInt8} {k : Nat} (h : uqStep s = some (b, k)) : 1 ≤ k ∧ k ≤ s.length := by
  match s with
  | [] => simp [uqStep] at h
  | c :: r =>
    simp only [uqStep] at h
    split at h
    · cases h
    split at h
    · cases h; simp
    match r with
    | [] => cases h
    | d :: r =>
      simp only at h
      split at h
      · cases h; simp
      split at h
      · cases h; simp
      split at h
      · cases h; simp
      split at h
      · cases h; simp
      split at h
      · match r with
        | [] => cases h
        | [x] => cases h
        | x :: y :: r =>
          simp only at h
          split at h
          · cases h
          · cases h; simp
      · cases h

theorem unqF_more : ∀ (n m : Nat) (s : List UInt8), s.length ≤ n → n ≤ m → unqF m s = unqF n s
  | n, m, [], _, _ => by cases n <;> cases m <;> rfl
  | 0, m, c :: r, h, _ => by simp at h
  | n + 1, 0, c :: r, _, h => by omega
  | n + 1, m + 1, c :: r, h, hm => by
    simp only [unqF]
    cases hs : uqStep (c :: r) with
    | none => rfl
    | some p =>
      obtain ⟨b, k⟩ := p
      have := uqStep_len hs
      simp only
      rw [unqF_more n m _ (by simp only [List.length_drop, List.length_cons] at this h ⊢; omega) (by omega)]

theorem or_hex : ∀ a b : Fin 16, bitsD .or .i64 ((a.val : Int) * 16) b.val = (a.val : Int) * 16 + b.val := by decide +kernel

def u_inv (s out : List UInt8) (i : Nat) : St := { env := [(0, .d (.str s)), (4, .own 1 (bytesD out)), (5, .d (.int .i64 i))], bx := [] }
def u_fail : Option (Ex × St) := some (.ret, { env := [(2, .own 1 []), (3, .d (.int .i64 11))], bx := [] })

theorem toNat_ofNatU (n : Nat) (h : n < 256) : (UInt8.ofNat n).toNat = n := by simp [UInt8.toNat_ofNat']; omega

theorem u_round (s out : List UInt8) (i : Nat) (hs : s.length ≤ 65536) (ho : out.length ≤ 65536) (hi : i < s.length) :
    X (M m) l_quote_Unquote_1 (u_inv s out i) = match uqStep (s.drop i) with
      | none => u_fail
      | some (b, k) => some (.norm, u_inv s (out ++ [b]) (i + k)) := by
  have hib : ((i : Int) < s.length) := by omega
  have hg : s[i]? = some s[i] := by simp [hi]
  have hdrop : s.drop i = s[i] :: s.drop (i + 1) := List.drop_eq_getElem_cons hi
  have w1 : IntKind.i64.wrap ((i : Int) + 1) = ((i + 1 : Nat) : Int) := by rw [wrap_i64 (by omega) (by omega)]; omega
  have w2 : IntKind.i64.wrap (((i + 1 : Nat) : Int) + 1) = ((i + 2 : Nat) : Int) := by rw [wrap_i64 (by omega) (by omega)]; omega
  have w3 : IntKind.i64.wrap (((i + 1 : Nat) : Int) + 2) = ((i + 3 : Nat) : Int) := by rw [wrap_i64 (by omega) (by omega)]; omega
  have w4 : IntKind.i64.wrap (((i + 3 : Nat) : Int) + 1) = ((i + 4 : Nat) : Int) := by rw [wrap_i64 (by omega) (by omega)]; omega
  have o1 : out.length + 1 ≤ 140737488355328 := by omega
  rw [hdrop]
  generalize hc : s[i] = c at hg ⊢
  have hlt : c.toNat < 256 := c.toNat_lt
  by_cases h34 : c.toNat = 34
  · have f1 : ((c.toNat : Int) = 34) := by omega
    have hq : uqStep (c :: s.drop (i + 1)) = none := by simp [uqStep, h34]
    rw [hq]
    simp -implicitDefEqProofs (maxSteps := 1000000) (disch := omega) only [↓Int.reduceLT, ↓Int.reduceLE, ↓Int.reduceEq, ↓Nat.reduceEqDiff, Nat.reduceBEq, ↓reduceIte, St.toRS, restrict, initEnv, plainArgs, reduceCtorEq, Nat.reduceEqDiff, Nat.reduceAdd, Nat.reduceMul, Int.reduceLT, Int.reduceLE, Int.reduceEq, Int.reduceNeg, Int.reduceAdd, Int.reduceToNat, Int.reduceNe, Nat.reduceSub, Int.reducePow, Int.reduceMul, vb0, vb1, vb2, vb3, vb4, vb5, vb6, vb7, l_quote_Unquote_1, u_inv, hib, hg, f1, u_fail]
  by_cases h10 : c.toNat = 10
  · have f1 : ((c.toNat : Int) = 10) := by omega
    have hq : uqStep (c :: s.drop (i + 1)) = none := by simp [uqStep, h10]
    rw [hq]
    simp -implicitDefEqProofs (maxSteps := 1000000) (disch := omega) only [↓Int.reduceLT, ↓Int.reduceLE, ↓Int.reduceEq, ↓Nat.reduceEqDiff, Nat.reduceBEq, ↓reduceIte, St.toRS, restrict, initEnv, plainArgs, reduceCtorEq, Nat.reduceEqDiff, Nat.reduceAdd, Nat.reduceMul, Int.reduceLT, Int.reduceLE, Int.reduceEq, Int.reduceNeg, Int.reduceAdd, Int.reduceToNat, Int.reduceNe, Nat.reduceSub, Int.reducePow, Int.reduceMul, vb0, vb1, vb2, vb3, vb4, vb5, vb6, vb7, l_quote_Unquote_1, u_inv, hib, hg, f1, u_fail]
  have g1 : ¬ ((c.toNat : Int) = 34) := by omega
  have g2 : ¬ ((c.toNat : Int) = 10) := by omega
  by_cases h92 : c.toNat = 92
  · have g3 : ((c.toNat : Int) = 92) := by omega
    by_cases hl : i + 1 = s.length
    · have f1 : ((i + 1 : Nat) : Int) = s.length := by omega
      have hq : uqStep (c :: s.drop (i + 1)) = none := by
        rw [hl, List.drop_length]
        simp [uqStep, h92]
      rw [hq]
      simp -implicitDefEqProofs (maxSteps := 1000000) (disch := omega) only [↓Int.reduceLT, ↓Int.reduceLE, ↓Int.reduceEq, ↓Nat.reduceEqDiff, Nat.reduceBEq, ↓reduceIte, St.toRS, restrict, initEnv, plainArgs, reduceCtorEq, Nat.reduceEqDiff, Nat.reduceAdd, Nat.reduceMul, Int.reduceLT, Int.reduceLE, Int.reduceEq, Int.reduceNeg, Int.reduceAdd, Int.reduceToNat, Int.reduceNe, Nat.reduceSub, Int.reducePow, Int.reduceMul, vb0, vb1, vb2, vb3, vb4, vb5, vb6, vb7, l_quote_Unquote_1, u_inv, hib, hg, g1, g2, g3, w1, f1, u_fail]
    have f1 : ¬ ((i + 1 : Nat) : Int) = s.length := by omega
    have hi1 : i + 1 < s.length := by omega
    have hg1 : s[i + 1]? = some s[i + 1] := by simp [hi1]
    have hdrop1 : s.drop (i + 1) = s[i + 1] :: s.drop (i + 2) := List.drop_eq_getElem_cons hi1
    rw [hdrop1]
    generalize hd : s[i + 1] = d at hg1 ⊢
    have hdlt : d.toNat < 256 := d.toNat_lt
    by_cases d34 : d.toNat = 34
    · have k1 : ((d.toNat : Int) = 34) := by omega
      have hq : uqStep (c :: d :: s.drop (i + 2)) = some (d, 2) := by simp [uqStep, h92, d34]
      rw [hq]
      simp -implicitDefEqProofs (maxSteps := 1000000) (disch := omega) only [↓Int.reduceLT, ↓Int.reduceLE, ↓Int.reduceEq, ↓Nat.reduceEqDiff, Nat.reduceBEq, ↓reduceIte, St.toRS, restrict, initEnv, plainArgs, reduceCtorEq, Nat.reduceEqDiff, Nat.reduceAdd, Nat.reduceMul, Int.reduceLT, Int.reduceLE, Int.reduceEq, Int.reduceNeg, Int.reduceAdd, Int.reduceToNat, Int.reduceNe, Nat.reduceSub, Int.reducePow, Int.reduceMul, vb0, vb1, vb2, vb3, vb4, vb5, vb6, vb7, l_quote_Unquote_1, u_inv, hib, hg, g1, g2, g3, w1, f1, hg1, k1, w2, o1, bytesD_length, bytesD_append, bytesD_cons, bytesD_nil, byteD]
    by_cases d92 : d.toNat = 92
    · have k1 : ((d.toNat : Int) = 92) := by omega
      have hq : uqStep (c :: d :: s.drop (i + 2)) = some (d, 2) := by simp [uqStep, h92, d92]
      rw [hq]
      simp -implicitDefEqProofs (maxSteps := 1000000) (disch := omega) only [↓Int.reduceLT, ↓Int.reduceLE, ↓Int.reduceEq, ↓Nat.reduceEqDiff, Nat.reduceBEq, ↓reduceIte, St.toRS, restrict, initEnv, plainArgs, reduceCtorEq, Nat.reduceEqDiff, Nat.reduceAdd, Nat.reduceMul, Int.reduceLT, Int.reduceLE, Int.reduceEq, Int.reduceNeg, Int.reduceAdd, Int.reduceToNat, Int.reduceNe, Nat.reduceSub, Int.reducePow, Int.reduceMul, vb0, vb1, vb2, vb3, vb4, vb5, vb6, vb7, l_quote_Unquote_1, u_inv, hib, hg, g1, g2, g3, w1, f1, hg1, k1, w2, o1, bytesD_length, bytesD_append, bytesD_cons, bytesD_nil, byteD]
    have m1 : ¬ ((d.toNat : Int) = 34) := by omega
    have m2 : ¬ ((d.toNat : Int) = 92) := by omega
    by_cases d110 : d.toNat = 110
    · have k1 : ((d.toNat : Int) = 110) := by omega
      have hq : uqStep (c :: d :: s.drop (i + 2)) = some (10, 2) := by simp [uqStep, h92, d110]
      rw [hq]
      simp -implicitDefEqProofs (maxSteps := 1000000) (disch := omega) only [↓Int.reduceLT, ↓Int.reduceLE, ↓Int.reduceEq, ↓Nat.reduceEqDiff, Nat.reduceBEq, ↓reduceIte, St.toRS, restrict, initEnv, plainArgs, reduceCtorEq, Nat.reduceEqDiff, Nat.reduceAdd, Nat.reduceMul, Int.reduceLT, Int.reduceLE, Int.reduceEq, Int.reduceNeg, Int.reduceAdd, Int.reduceToNat, Int.reduceNe, Nat.reduceSub, Int.reducePow, Int.reduceMul, vb0, vb1, vb2, vb3, vb4, vb5, vb6, vb7, l_quote_Unquote_1, u_inv, hib, hg, g1, g2, g3, w1, f1, hg1, k1, m1, m2, w2, o1, bytesD_length, bytesD_append, bytesD_cons, bytesD_nil, byteD]
      rfl
    by_cases d116 : d.toNat = 116
    · have k1 : ((d.toNat : Int) = 116) := by omega
      have hq : uqStep (c :: d :: s.drop (i + 2)) = some (9, 2) := by simp [uqStep, h92, d116]
      rw [hq]
      simp -implicitDefEqProofs (maxSteps := 1000000) (disch := omega) only [↓Int.reduceLT, ↓Int.reduceLE, ↓Int.reduceEq, ↓Nat.reduceEqDiff, Nat.reduceBEq, ↓reduceIte, St.toRS, restrict, initEnv, plainArgs, reduceCtorEq, Nat.reduceEqDiff, Nat.reduceAdd, Nat.reduceMul, Int.reduceLT, Int.reduceLE, Int.reduceEq, Int.reduceNeg, Int.reduceAdd, Int.reduceToNat, Int.reduceNe, Nat.reduceSub, Int.reducePow, Int.reduceMul, vb0, vb1, vb2, vb3, vb4, vb5, vb6, vb7, l_quote_Unquote_1, u_inv, hib, hg, g1, g2, g3, w1, f1, hg1, k1, m1, m2, w2, o1, bytesD_length, bytesD_append, bytesD_cons, bytesD_nil, byteD]
      rfl
    by_cases d114 : d.toNat = 114
    · have k1 : ((d.toNat : Int) = 114) := by omega
      have hq : uqStep (c :: d :: s.drop (i + 2)) = some (13, 2) := by simp [uqStep, h92, d114]
      rw [hq]
      simp -implicitDefEqProofs (maxSteps := 1000000) (disch := omega) only [↓Int.reduceLT, ↓Int.reduceLE, ↓Int.reduceEq, ↓Nat.reduceEqDiff, Nat.reduceBEq, ↓reduceIte, St.toRS, restrict, initEnv, plainArgs, reduceCtorEq, Nat.reduceEqDiff, Nat.reduceAdd, Nat.reduceMul, Int.reduceLT, Int.reduceLE, Int.reduceEq, Int.reduceNeg, Int.reduceAdd, Int.reduceToNat, Int.reduceNe, Nat.reduceSub, Int.reducePow, Int.reduceMul, vb0, vb1, vb2, vb3, vb4, vb5, vb6, vb7, l_quote_Unquote_1, u_inv, hib, hg, g1, g2, g3, w1, f1, hg1, k1, m1, m2, w2, o1, bytesD_length, bytesD_append, bytesD_cons, bytesD_nil, byteD]
      rfl
    have m3 : ¬ ((d.toNat : Int) = 110) := by omega
    have m4 : ¬ ((d.toNat : Int) = 116) := by omega
    have m5 : ¬ ((d.toNat : Int) = 114) := by omega
    by_cases d120 : d.toNat = 120
    · have k1 : ((d.toNat : Int) = 120) := by omega
      have ws : IntKind.i64.wrap ((s.length : Int) - ((i + 1 : Nat) : Int)) = (s.length : Int) - ((i + 1 : Nat) : Int) := wrap_i64 (by omega) (by omega)
      by_cases hl3 : s.length < i + 4
      · have k2 : ((s.length : Int) - ((i + 1 : Nat) : Int)) < 3 := by omega
        have hq : uqStep (c :: d :: s.drop (i + 2)) = none := by
          have hlen : (s.drop (i + 2)).length < 2 := by simp; omega
          match hx : s.drop (i + 2), hlen with
          | [], _ => simp [uqStep, h92, d120]
          | [x], _ => simp [uqStep, h92, d120]
        rw [hq]
        simp -implicitDefEqProofs (maxSteps := 1000000) (disch := omega) only [↓Int.reduceLT, ↓Int.reduceLE, ↓Int.reduceEq, ↓Nat.reduceEqDiff, Nat.reduceBEq, ↓reduceIte, St.toRS, restrict, initEnv, plainArgs, reduceCtorEq, Nat.reduceEqDiff, Nat.reduceAdd, Nat.reduceMul, Int.reduceLT, Int.reduceLE, Int.reduceEq, Int.reduceNeg, Int.reduceAdd, Int.reduceToNat, Int.reduceNe, Nat.reduceSub, Int.reducePow, Int.reduceMul, vb0, vb1, vb2, vb3, vb4, vb5, vb6, vb7, l_quote_Unquote_1, u_inv, hib, hg, g1, g2, g3, w1, f1, hg1, k1, m1, m2, m3, m4, m5, ws, k2, u_fail]
      have k2 : ¬ ((s.length : Int) - ((i + 1 : Nat) : Int)) < 3 := by omega
      have hi2 : i + 2 < s.length := by omega
      have hi3 : i + 3 < s.length := by omega
      have hg2 : s[i + 2]? = some s[i + 2] := by simp [hi2]
      have hg3 : s[i + 3]? = some s[i + 3] := by simp [hi3]
      have hdrop2 : s.drop (i + 2) = s[i + 2] :: s[i + 3] :: s.drop (i + 4) := by
        rw [List.drop_eq_getElem_cons hi2, List.drop_eq_getElem_cons hi3]
      rw [hdrop2]
      generalize hx : s[i + 2] = x at hg2 ⊢
      generalize hy : s[i + 3] = y at hg3 ⊢
      have sx := dg_spec (m := m) x.toNat x.toNat_lt
      have sy := dg_spec (m := m) y.toNat y.toNat_lt
      simp only [n_quote_Digit] at sx sy
      have rx := hexI_range x.toNat
      have ry := hexI_range y.toNat
      by_cases hx0 : hexI x.toNat < 0
      · have hq : uqStep (c :: d :: x :: y :: s.drop (i + 4)) = none := by simp [uqStep, h92, d120, hx0]
        rw [hq]
        simp -implicitDefEqProofs (maxSteps := 1000000) (disch := omega) only [↓Int.reduceLT, ↓Int.reduceLE, ↓Int.reduceEq, ↓Nat.reduceEqDiff, Nat.reduceBEq, ↓reduceIte, St.toRS, restrict, initEnv, plainArgs, reduceCtorEq, Nat.reduceEqDiff, Nat.reduceAdd, Nat.reduceMul, Int.reduceLT, Int.reduceLE, Int.reduceEq, Int.reduceNeg, Int.reduceAdd, Int.reduceToNat, Int.reduceNe, Nat.reduceSub, Int.reducePow, Int.reduceMul, vb0, vb1, vb2, vb3, vb4, vb5, vb6, vb7, l_quote_Unquote_1, u_inv, hib, hg, g1, g2, g3, w1, w2, w3, f1, hg1, k1, m1, m2, m3, m4, m5, ws, k2, hg2, hg3, sx, sy, hx0, u_fail]
      by_cases hy0 : hexI y.toNat < 0
      · have hq : uqStep (c :: d :: x :: y :: s.drop (i + 4)) = none := by simp [uqStep, h92, d120, hy0]
        rw [hq]
        simp -implicitDefEqProofs (maxSteps := 1000000) (disch := omega) only [↓Int.reduceLT, ↓Int.reduceLE, ↓Int.reduceEq, ↓Nat.reduceEqDiff, Nat.reduceBEq, ↓reduceIte, St.toRS, restrict, initEnv, plainArgs, reduceCtorEq, Nat.reduceEqDiff, Nat.reduceAdd, Nat.reduceMul, Int.reduceLT, Int.reduceLE, Int.reduceEq, Int.reduceNeg, Int.reduceAdd, Int.reduceToNat, Int.reduceNe, Nat.reduceSub, Int.reducePow, Int.reduceMul, vb0, vb1, vb2, vb3, vb4, vb5, vb6, vb7, l_quote_Unquote_1, u_inv, hib, hg, g1, g2, g3, w1, w2, w3, f1, hg1, k1, m1, m2, m3, m4, m5, ws, k2, hg2, hg3, sx, sy, hx0, hy0, u_fail]
      have hor := or_hex ⟨(hexI x.toNat).toNat, by omega⟩ ⟨(hexI y.toNat).toNat, by omega⟩
      simp only [Int.toNat_of_nonneg (show 0 ≤ hexI x.toNat by omega), Int.toNat_of_nonneg (show 0 ≤ hexI y.toNat by omega)] at hor
      have q1 : IntKind.i64.wrap (hexI x.toNat * 16) = hexI x.toNat * 16 := wrap_i64 (by omega) (by omega)
      have q2 : IntKind.u8.wrap (hexI x.toNat * 16 + hexI y.toNat) = hexI x.toNat * 16 + hexI y.toNat := wrap_u8 (by omega) (by omega)
      have hq : uqStep (c :: d :: x :: y :: s.drop (i + 4)) = some (UInt8.ofNat (hexI x.toNat * 16 + hexI y.toNat).toNat, 4) := by simp [uqStep, h92, d120, hx0, hy0]
      have hb : byteD (UInt8.ofNat (hexI x.toNat * 16 + hexI y.toNat).toNat) = .int .u8 (hexI x.toNat * 16 + hexI y.toNat) := by
        simp only [byteD]
        rw [toNat_ofNatU _ (by omega), Int.toNat_of_nonneg (by omega)]
      rw [hq]
      simp -implicitDefEqProofs (maxSteps := 1000000) (disch := omega) only [↓Int.reduceLT, ↓Int.reduceLE, ↓Int.reduceEq, ↓Nat.reduceEqDiff, Nat.reduceBEq, ↓reduceIte, St.toRS, restrict, initEnv, plainArgs, reduceCtorEq, Nat.reduceEqDiff, Nat.reduceAdd, Nat.reduceMul, Int.reduceLT, Int.reduceLE, Int.reduceEq, Int.reduceNeg, Int.reduceAdd, Int.reduceToNat, Int.reduceNe, Nat.reduceSub, Int.reducePow, Int.reduceMul, vb0, vb1, vb2, vb3, vb4, vb5, vb6, vb7, l_quote_Unquote_1, u_inv, hib, hg, g1, g2, g3, w1, w2, w3, w4, f1, hg1, k1, m1, m2, m3, m4, m5, ws, k2, hg2, hg3, sx, sy, hx0, hy0, q1, hor, q2, o1, bytesD_length, bytesD_append, bytesD_cons, bytesD_nil, hb]
    · have k1 : ¬ ((d.toNat : Int) = 120) := by omega
      have hq : uqStep (c :: d :: s.drop (i + 2)) = none := by simp [uqStep, h92, d34, d92, d110, d116, d114, d120]
      rw [hq]
      simp -implicitDefEqProofs (maxSteps := 1000000) (disch := omega) only [↓Int.reduceLT, ↓Int.reduceLE, ↓Int.reduceEq, ↓Nat.reduceEqDiff, Nat.reduceBEq, ↓reduceIte, St.toRS, restrict, initEnv, plainArgs, reduceCtorEq, Nat.reduceEqDiff, Nat.reduceAdd, Nat.reduceMul, Int.reduceLT, Int.reduceLE, Int.reduceEq, Int.reduceNeg, Int.reduceAdd, Int.reduceToNat, Int.reduceNe, Nat.reduceSub, Int.reducePow, Int.reduceMul, vb0, vb1, vb2, vb3, vb4, vb5, vb6, vb7, l_quote_Unquote_1, u_inv, hib, hg, g1, g2, g3, w1, f1, hg1, k1, m1, m2, m3, m4, m5, u_fail]
  · have g3 : ¬ ((c.toNat : Int) = 92) := by omega
    have hq : uqStep (c :: s.drop (i + 1)) = some (c, 1) := by simp [uqStep, h34, h10, h92]
    rw [hq]
    simp -implicitDefEqProofs (maxSteps := 1000000) (disch := omega) only [↓Int.reduceLT, ↓Int.reduceLE, ↓Int.reduceEq, ↓Nat.reduceEqDiff, Nat.reduceBEq, ↓reduceIte, St.toRS, restrict, initEnv, plainArgs, reduceCtorEq, Nat.reduceEqDiff, Nat.reduceAdd, Nat.reduceMul, Int.reduceLT, Int.reduceLE, Int.reduceEq, Int.reduceNeg, Int.reduceAdd, Int.reduceToNat, Int.reduceNe, Nat.reduceSub, Int.reducePow, Int.reduceMul, vb0, vb1, vb2, vb3, vb4, vb5, vb6, vb7, l_quote_Unquote_1, u_inv, hib, hg, g1, g2, g3, w1, o1, bytesD_length, bytesD_append, bytesD_cons, bytesD_nil, byteD]
end Go.Proofs.Ytladdhfkmnhmfaa
