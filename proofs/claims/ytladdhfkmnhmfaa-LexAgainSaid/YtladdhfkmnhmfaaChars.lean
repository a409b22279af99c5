/-
  Functions of one byte: by evaluation at all 256. Ends of names.
-/
import Derived.Test.YtladdhfkmnhmfaaFns
import Derived.Test.YtladdhfkmnhmfaaViSet
set_option linter.unusedVariables false
set_option linter.unusedSimpArgs false
set_option maxRecDepth 100000
set_option maxHeartbeats 8000000
namespace Go.Proofs.Ytladdhfkmnhmfaa
open Go.Vi
variable {m : Int}

/-- A digit by base 16; -1: none. -/
def hexI (n : Nat) : Int := if 48 ≤ n ∧ n ≤ 57 then n - 48 else if 97 ≤ n ∧ n ≤ 102 then n - 87 else if 65 ≤ n ∧ n ≤ 70 then n - 55 else -1
theorem hexI_range (n : Nat) : -1 ≤ hexI n ∧ hexI n < 16 := by
  unfold hexI
  split
  · omega
  split
  · omega
  split
  · omega
  · omega
def isLetter (n : Nat) : Bool := decide ((97 ≤ n ∧ n ≤ 122) ∨ (65 ≤ n ∧ n ≤ 90) ∨ n = 95)
def isDigit (n : Nat) : Bool := decide (48 ≤ n ∧ n ≤ 57)
def signL : List UInt8 := [123, 125, 91, 93, 40, 41, 60, 62, 61, 59, 44, 46, 45, 58, 63]
def isSign (n : Nat) : Bool := signL.any fun c => c.toNat == n

theorem byte_fn {α : Type} {f g : Nat → α} (h : (List.range 256).map f = (List.range 256).map g) (n : Nat) (hn : n < 256) : f n = g n := by
  have := congrArg (fun l => l[n]?) h
  simpa [hn] using this

theorem letter_run (m : Int) : (List.range 256).map (fun n => call (M m) 20 15 [.d (.int .u8 (n : Nat))]) = (List.range 256).map fun n => some (.d (.bool (isLetter n))) := by kernel_rfl
theorem digit_run (m : Int) : (List.range 256).map (fun n => call (M m) 20 17 [.d (.int .u8 (n : Nat))]) = (List.range 256).map fun n => some (.d (.bool (isDigit n))) := by kernel_rfl
theorem rletter_run (m : Int) : (List.range 256).map (fun n => call (M m) 20 23 [.d (.int .u8 (n : Nat))]) = (List.range 256).map fun n => some (.d (.bool (isLetter n))) := by kernel_rfl
theorem rdigit_run (m : Int) : (List.range 256).map (fun n => call (M m) 20 24 [.d (.int .u8 (n : Nat))]) = (List.range 256).map fun n => some (.d (.bool (isDigit n))) := by kernel_rfl
theorem qdigit_run (m : Int) : (List.range 256).map (fun n => call (M m) 20 31 [.d (.int .u8 (n : Nat))]) = (List.range 256).map fun n => some (.d (.int .i64 (hexI n))) := by kernel_rfl
theorem rhex_run (m : Int) : (List.range 256).map (fun n => call (M m) 20 34 [.d (.int .u8 (n : Nat))]) = (List.range 256).map fun n => some (.d (.int .i64 (hexI n))) := by kernel_rfl
theorem sign_run : (List.range 256).map (fun n => decide (0 ≤ Go.Lib.indexByte signL (n : Nat).toUInt8)) = (List.range 256).map isSign := by decide +kernel

theorem letter_spec (c : UInt8) : C (M m) 15 [.d (.int .u8 (c.toNat : Int))] = some (.d (.bool (isLetter c.toNat))) := C_call (byte_fn (letter_run m) c.toNat c.toNat_lt)
theorem digit_spec (c : UInt8) : C (M m) 17 [.d (.int .u8 (c.toNat : Int))] = some (.d (.bool (isDigit c.toNat))) := C_call (byte_fn (digit_run m) c.toNat c.toNat_lt)
theorem rletter_spec (c : UInt8) : C (M m) 23 [.d (.int .u8 (c.toNat : Int))] = some (.d (.bool (isLetter c.toNat))) := C_call (byte_fn (rletter_run m) c.toNat c.toNat_lt)
theorem rdigit_spec (c : UInt8) : C (M m) 24 [.d (.int .u8 (c.toNat : Int))] = some (.d (.bool (isDigit c.toNat))) := C_call (byte_fn (rdigit_run m) c.toNat c.toNat_lt)
theorem qdigit_spec (c : UInt8) : C (M m) 31 [.d (.int .u8 (c.toNat : Int))] = some (.d (.int .i64 (hexI c.toNat))) := C_call (byte_fn (qdigit_run m) c.toNat c.toNat_lt)
theorem rhex_spec (c : UInt8) : C (M m) 34 [.d (.int .u8 (c.toNat : Int))] = some (.d (.int .i64 (hexI c.toNat))) := C_call (byte_fn (rhex_run m) c.toNat c.toNat_lt)
def sg_st (c : UInt8) (i : Nat) : St := { env := [(0, .d (.int .u8 (c.toNat : Int))), (3, .d (.str signL)), (4, .d (.int .i64 i))], bx := [] }
theorem rsign_loop (c : UInt8) : ∀ (n i : Nat), i ≤ 15 → 15 - i ≤ n →
    X (M m) (.loop l_ref4_sign_1) (sg_st c i) = if (signL.drop i).any (fun d => d.toNat == c.toNat) then some (.ret, { env := [(2, .d (.bool true))], bx := [] }) else some (.exit 0, { env := [(0, .d (.int .u8 (c.toNat : Int))), (3, .d (.str signL)), (4, .d (.int .i64 15)), (8, .d (.bool false))], bx := [] }) := by
  have hl : signL.length = 15 := rfl
  intro n
  induction n with
  | zero =>
    intro i hi hn
    obtain rfl : i = 15 := by omega
    have : (signL.drop 15).any (fun d => d.toNat == c.toNat) = false := rfl
    rw [this]
    refine loop_exit ?_ (by simp)
    simp -implicitDefEqProofs (maxSteps := 1000000) (disch := omega) only [↓Int.reduceLT, ↓Int.reduceLE, ↓Int.reduceEq, ↓Nat.reduceEqDiff, Nat.reduceBEq, ↓reduceIte, St.toRS, restrict, initEnv, plainArgs, reduceCtorEq, Nat.reduceEqDiff, Nat.reduceAdd, Nat.reduceMul, Int.reduceLT, Int.reduceLE, Int.reduceEq, Int.reduceNeg, Int.reduceAdd, Int.reduceToNat, Int.reduceNe, Nat.reduceSub, Int.reducePow, Int.reduceMul, vb0, vb1, vb2, vb3, vb4, vb5, vb6, vb7, l_ref4_sign_1, sg_st, hl]
  | succ n ih =>
    intro i hi hn
    rcases Nat.lt_or_ge i 15 with hlt | hge
    · have hg : signL[i]? = some (signL[i]'(by omega)) := by simp [hl, hlt]
      rw [List.drop_eq_getElem_cons (by omega), List.any_cons]
      generalize signL[i]'(by omega) = d at hg
      have l1 := d.toNat_lt
      cases hd : d.toNat == c.toNat with
      | true =>
        simp only [Bool.true_or, if_true]
        simp only [beq_iff_eq] at hd
        refine loop_exit ?_ (by simp)
        simp -implicitDefEqProofs (maxSteps := 1000000) (disch := omega) only [↓Int.reduceLT, ↓Int.reduceLE, ↓Int.reduceEq, ↓Nat.reduceEqDiff, Nat.reduceBEq, ↓reduceIte, St.toRS, restrict, initEnv, plainArgs, reduceCtorEq, Nat.reduceEqDiff, Nat.reduceAdd, Nat.reduceMul, Int.reduceLT, Int.reduceLE, Int.reduceEq, Int.reduceNeg, Int.reduceAdd, Int.reduceToNat, Int.reduceNe, Nat.reduceSub, Int.reducePow, Int.reduceMul, vb0, vb1, vb2, vb3, vb4, vb5, vb6, vb7, l_ref4_sign_1, sg_st, hl, hg]
      | false =>
        simp only [beq_eq_false_iff_ne, ne_eq] at hd
        have hr : X (M m) l_ref4_sign_1 (sg_st c i) = some (.norm, sg_st c (i + 1)) := by
          simp -implicitDefEqProofs (maxSteps := 1000000) (disch := omega) only [↓Int.reduceLT, ↓Int.reduceLE, ↓Int.reduceEq, ↓Nat.reduceEqDiff, Nat.reduceBEq, ↓reduceIte, St.toRS, restrict, initEnv, plainArgs, reduceCtorEq, Nat.reduceEqDiff, Nat.reduceAdd, Nat.reduceMul, Int.reduceLT, Int.reduceLE, Int.reduceEq, Int.reduceNeg, Int.reduceAdd, Int.reduceToNat, Int.reduceNe, Nat.reduceSub, Int.reducePow, Int.reduceMul, vb0, vb1, vb2, vb3, vb4, vb5, vb6, vb7, l_ref4_sign_1, sg_st, hl, hg]
        rw [X_loop, hr, Bool.false_or]
        exact ih (i + 1) (by omega) (by omega)
    · obtain rfl : i = 15 := by omega
      have : (signL.drop 15).any (fun d => d.toNat == c.toNat) = false := rfl
      rw [this]
      refine loop_exit ?_ (by simp)
      simp -implicitDefEqProofs (maxSteps := 1000000) (disch := omega) only [↓Int.reduceLT, ↓Int.reduceLE, ↓Int.reduceEq, ↓Nat.reduceEqDiff, Nat.reduceBEq, ↓reduceIte, St.toRS, restrict, initEnv, plainArgs, reduceCtorEq, Nat.reduceEqDiff, Nat.reduceAdd, Nat.reduceMul, Int.reduceLT, Int.reduceLE, Int.reduceEq, Int.reduceNeg, Int.reduceAdd, Int.reduceToNat, Int.reduceNe, Nat.reduceSub, Int.reducePow, Int.reduceMul, vb0, vb1, vb2, vb3, vb4, vb5, vb6, vb7, l_ref4_sign_1, sg_st, hl]
theorem rsign_spec (c : UInt8) : C (M m) 28 [.d (.int .u8 (c.toNat : Int))] = some (.d (.bool (isSign c.toNat))) := by
  rw [c_fn (sf := f_ref4_sign) rfl rfl ⟨rfl, rfl⟩]
  have hl := rsign_loop (m := m) c 15 0 (by omega) (by omega)
  simp only [sg_st, List.drop_zero, Int.cast_ofNat_Int] at hl
  have hs : ([123, 125, 91, 93, 40, 41, 60, 62, 61, 59, 44, 46, 45, 58, 63] : List UInt8) = signL := rfl
  cases h : signL.any (fun d => d.toNat == c.toNat) with
  | true => simp only [h, if_true] at hl; simp -implicitDefEqProofs (maxSteps := 1000000) (disch := omega) only [↓Int.reduceLT, ↓Int.reduceLE, ↓Int.reduceEq, ↓Nat.reduceEqDiff, Nat.reduceBEq, ↓reduceIte, St.toRS, restrict, initEnv, plainArgs, reduceCtorEq, Nat.reduceEqDiff, Nat.reduceAdd, Nat.reduceMul, Int.reduceLT, Int.reduceLE, Int.reduceEq, Int.reduceNeg, Int.reduceAdd, Int.reduceToNat, Int.reduceNe, Nat.reduceSub, Int.reducePow, Int.reduceMul, vb0, vb1, vb2, vb3, vb4, vb5, vb6, vb7, f_ref4_sign, hs, hl, isSign, h]
  | false => simp only [h, Bool.false_eq_true, if_false] at hl; simp -implicitDefEqProofs (maxSteps := 1000000) (disch := omega) only [↓Int.reduceLT, ↓Int.reduceLE, ↓Int.reduceEq, ↓Nat.reduceEqDiff, Nat.reduceBEq, ↓reduceIte, St.toRS, restrict, initEnv, plainArgs, reduceCtorEq, Nat.reduceEqDiff, Nat.reduceAdd, Nat.reduceMul, Int.reduceLT, Int.reduceLE, Int.reduceEq, Int.reduceNeg, Int.reduceAdd, Int.reduceToNat, Int.reduceNe, Nat.reduceSub, Int.reducePow, Int.reduceMul, vb0, vb1, vb2, vb3, vb4, vb5, vb6, vb7, f_ref4_sign, hs, hl, isSign, h]
theorem sign_eq (c : UInt8) : (0 ≤ Go.Lib.indexByte signL c) ↔ isSign c.toNat = true := by
  have := byte_fn sign_run c.toNat c.toNat_lt
  rw [show c.toNat.toUInt8 = c by simp] at this
  rw [← this, decide_eq_true_eq]

/-- How many letters and digits stand ahead. -/
def wl : List UInt8 → Nat
  | [] => 0
  | c :: r => if isLetter c.toNat || isDigit c.toNat then wl r + 1 else 0
theorem wl_le : ∀ r : List UInt8, wl r ≤ r.length
  | [] => by simp [wl]
  | c :: r => by
    have := wl_le r
    simp only [wl, List.length_cons]
    split <;> omega

def nm_st (s : List UInt8) (i : Nat) : St := { env := [(0, .d (.str s)), (1, .d (.int .i64 i))], bx := [] }
theorem named_loop (s : List UInt8) (hs : s.length ≤ 140737488355328) : ∀ (n i : Nat), i ≤ s.length → s.length - i ≤ n →
    ∃ ex, X (M m) (.loop l_lex_named_1) (nm_st s i) = some (.exit 0, { env := (0, .d (.str s)) :: (1, .d (.int .i64 (i + wl (s.drop i) : Nat))) :: ex, bx := [] }) := by
  intro n
  induction n with
  | zero =>
    intro i hi hn
    obtain rfl : i = s.length := by omega
    refine ⟨[(20, .d (.bool false))], loop_exit ?_ (by simp)⟩
    rw [List.drop_length]
    simp -implicitDefEqProofs (maxSteps := 1000000) (disch := omega) only [↓Int.reduceLT, ↓Int.reduceLE, ↓Int.reduceEq, ↓Nat.reduceEqDiff, Nat.reduceBEq, ↓reduceIte, St.toRS, restrict, initEnv, plainArgs, reduceCtorEq, Nat.reduceEqDiff, Nat.reduceAdd, Nat.reduceMul, Int.reduceLT, Int.reduceLE, Int.reduceEq, Int.reduceNeg, Int.reduceAdd, Int.reduceToNat, Int.reduceNe, Nat.reduceSub, Int.reducePow, Int.reduceMul, vb0, vb1, vb2, vb3, vb4, vb5, vb6, vb7, l_lex_named_1, nm_st, wl, Nat.add_zero]
  | succ n ih =>
    intro i hi hn
    rcases Nat.lt_or_ge i s.length with hlt | hge
    · have hg : s[i]? = some s[i] := by simp [hlt]
      rw [List.drop_eq_getElem_cons hlt, wl]
      generalize s[i] = c at hg
      have q1 := letter_spec (m := m) c
      have q2 := digit_spec (m := m) c
      cases h1 : isLetter c.toNat || isDigit c.toNat with
      | false =>
        simp only [Bool.or_eq_false_iff] at h1
        rw [h1.1] at q1
        rw [h1.2] at q2
        refine ⟨[(20, .d (.bool false))], loop_exit ?_ (by simp)⟩
        simp -implicitDefEqProofs (maxSteps := 1000000) (disch := omega) only [↓Int.reduceLT, ↓Int.reduceLE, ↓Int.reduceEq, ↓Nat.reduceEqDiff, Nat.reduceBEq, ↓reduceIte, St.toRS, restrict, initEnv, plainArgs, reduceCtorEq, Nat.reduceEqDiff, Nat.reduceAdd, Nat.reduceMul, Int.reduceLT, Int.reduceLE, Int.reduceEq, Int.reduceNeg, Int.reduceAdd, Int.reduceToNat, Int.reduceNe, Nat.reduceSub, Int.reducePow, Int.reduceMul, vb0, vb1, vb2, vb3, vb4, vb5, vb6, vb7, l_lex_named_1, nm_st, hg, q1, q2, Nat.add_zero]
      | true =>
        have hr : X (M m) l_lex_named_1 (nm_st s i) = some (.norm, nm_st s (i + 1)) := by
          cases h2 : isLetter c.toNat with
          | true =>
            rw [h2] at q1
            simp -implicitDefEqProofs (maxSteps := 1000000) (disch := omega) only [↓Int.reduceLT, ↓Int.reduceLE, ↓Int.reduceEq, ↓Nat.reduceEqDiff, Nat.reduceBEq, ↓reduceIte, St.toRS, restrict, initEnv, plainArgs, reduceCtorEq, Nat.reduceEqDiff, Nat.reduceAdd, Nat.reduceMul, Int.reduceLT, Int.reduceLE, Int.reduceEq, Int.reduceNeg, Int.reduceAdd, Int.reduceToNat, Int.reduceNe, Nat.reduceSub, Int.reducePow, Int.reduceMul, vb0, vb1, vb2, vb3, vb4, vb5, vb6, vb7, l_lex_named_1, nm_st, hg, q1]
          | false =>
            rw [h2, Bool.false_or] at h1
            rw [h2] at q1
            rw [h1] at q2
            simp -implicitDefEqProofs (maxSteps := 1000000) (disch := omega) only [↓Int.reduceLT, ↓Int.reduceLE, ↓Int.reduceEq, ↓Nat.reduceEqDiff, Nat.reduceBEq, ↓reduceIte, St.toRS, restrict, initEnv, plainArgs, reduceCtorEq, Nat.reduceEqDiff, Nat.reduceAdd, Nat.reduceMul, Int.reduceLT, Int.reduceLE, Int.reduceEq, Int.reduceNeg, Int.reduceAdd, Int.reduceToNat, Int.reduceNe, Nat.reduceSub, Int.reducePow, Int.reduceMul, vb0, vb1, vb2, vb3, vb4, vb5, vb6, vb7, l_lex_named_1, nm_st, hg, q1, q2]
        obtain ⟨ex, hx⟩ := ih (i + 1) (by omega) (by omega)
        refine ⟨ex, ?_⟩
        simp only [if_true]
        rw [X_loop, hr, show i + (wl (s.drop (i + 1)) + 1) = i + 1 + wl (s.drop (i + 1)) by omega]
        exact hx
    · obtain rfl : i = s.length := by omega
      refine ⟨[(20, .d (.bool false))], loop_exit ?_ (by simp)⟩
      rw [List.drop_length]
      simp -implicitDefEqProofs (maxSteps := 1000000) (disch := omega) only [↓Int.reduceLT, ↓Int.reduceLE, ↓Int.reduceEq, ↓Nat.reduceEqDiff, Nat.reduceBEq, ↓reduceIte, St.toRS, restrict, initEnv, plainArgs, reduceCtorEq, Nat.reduceEqDiff, Nat.reduceAdd, Nat.reduceMul, Int.reduceLT, Int.reduceLE, Int.reduceEq, Int.reduceNeg, Int.reduceAdd, Int.reduceToNat, Int.reduceNe, Nat.reduceSub, Int.reducePow, Int.reduceMul, vb0, vb1, vb2, vb3, vb4, vb5, vb6, vb7, l_lex_named_1, nm_st, wl, Nat.add_zero]
theorem named_spec (s : List UInt8) (i : Nat) (hs : s.length ≤ 140737488355328) (hi : i ≤ s.length) : C (M m) 16 [.d (.str s), .d (.int .i64 i)] = some (.d (.int .i64 (i + wl (s.drop i) : Nat))) := by
  rw [c_fn (sf := f_lex_named) rfl rfl ⟨rfl, rfl⟩]
  obtain ⟨ex, hx⟩ := named_loop (m := m) s hs s.length i hi (by omega)
  simp only [nm_st] at hx
  simp -implicitDefEqProofs (maxSteps := 1000000) (disch := omega) only [↓Int.reduceLT, ↓Int.reduceLE, ↓Int.reduceEq, ↓Nat.reduceEqDiff, Nat.reduceBEq, ↓reduceIte, St.toRS, restrict, initEnv, plainArgs, reduceCtorEq, Nat.reduceEqDiff, Nat.reduceAdd, Nat.reduceMul, Int.reduceLT, Int.reduceLE, Int.reduceEq, Int.reduceNeg, Int.reduceAdd, Int.reduceToNat, Int.reduceNe, Nat.reduceSub, Int.reducePow, Int.reduceMul, vb0, vb1, vb2, vb3, vb4, vb5, vb6, vb7, f_lex_named, hx]

/-! ### Begins a text so? -/
theorem bytes_eq_take {s t : List UInt8} : (t.length ≤ s.length ∧ s.take t.length = t) ↔ t <+: s := by
  constructor
  · rintro ⟨h1, h2⟩; rw [← h2]; exact List.take_prefix _ _
  · rintro ⟨r, rfl⟩; simp
theorem has_spec (s t : List UInt8) (hs : s.length ≤ 140737488355328) (ht : t.length ≤ 140737488355328) : C (M m) 13 [.d (.str s), .d (.str t)] = some (.d (.bool (decide (s.take t.length = t)))) := by
  have h29 : C (M m) 29 [.d (.str s), .d (.str t)] = some (.d (.bool (decide (s.take t.length = t)))) := by
    rw [c_fn (sf := f_internal_stringslite_HasPrefix) rfl rfl ⟨rfl, rfl⟩]
    by_cases h : t.length ≤ s.length
    · have h' : t.length ≤ s.length := h
      simp -implicitDefEqProofs (maxSteps := 1000000) (disch := omega) only [↓Int.reduceLT, ↓Int.reduceLE, ↓Int.reduceEq, ↓Nat.reduceEqDiff, Nat.reduceBEq, ↓reduceIte, St.toRS, restrict, initEnv, plainArgs, reduceCtorEq, Nat.reduceEqDiff, Nat.reduceAdd, Nat.reduceMul, Int.reduceLT, Int.reduceLE, Int.reduceEq, Int.reduceNeg, Int.reduceAdd, Int.reduceToNat, Int.reduceNe, Nat.reduceSub, Int.reducePow, Int.reduceMul, vb0, vb1, vb2, vb3, vb4, vb5, vb6, vb7, f_internal_stringslite_HasPrefix, List.drop_zero]
    · have e : ¬ (s.take t.length = t) := by
        intro he
        have := congrArg List.length he
        rw [List.length_take] at this
        omega
      simp -implicitDefEqProofs (maxSteps := 1000000) (disch := omega) only [↓Int.reduceLT, ↓Int.reduceLE, ↓Int.reduceEq, ↓Nat.reduceEqDiff, Nat.reduceBEq, ↓reduceIte, St.toRS, restrict, initEnv, plainArgs, reduceCtorEq, Nat.reduceEqDiff, Nat.reduceAdd, Nat.reduceMul, Int.reduceLT, Int.reduceLE, Int.reduceEq, Int.reduceNeg, Int.reduceAdd, Int.reduceToNat, Int.reduceNe, Nat.reduceSub, Int.reducePow, Int.reduceMul, vb0, vb1, vb2, vb3, vb4, vb5, vb6, vb7, f_internal_stringslite_HasPrefix, e]
  rw [c_fn (sf := f_strings_HasPrefix) rfl rfl ⟨rfl, rfl⟩]
  simp -implicitDefEqProofs (maxSteps := 1000000) (disch := omega) only [↓Int.reduceLT, ↓Int.reduceLE, ↓Int.reduceEq, ↓Nat.reduceEqDiff, Nat.reduceBEq, ↓reduceIte, St.toRS, restrict, initEnv, plainArgs, reduceCtorEq, Nat.reduceEqDiff, Nat.reduceAdd, Nat.reduceMul, Int.reduceLT, Int.reduceLE, Int.reduceEq, Int.reduceNeg, Int.reduceAdd, Int.reduceToNat, Int.reduceNe, Nat.reduceSub, Int.reducePow, Int.reduceMul, vb0, vb1, vb2, vb3, vb4, vb5, vb6, vb7, f_strings_HasPrefix, h29]
end Go.Proofs.Ytladdhfkmnhmfaa
