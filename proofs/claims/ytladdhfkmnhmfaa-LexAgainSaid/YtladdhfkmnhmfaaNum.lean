/-
  What lex.number and the reference's number answer: over data.
-/
import Derived.Test.YtladdhfkmnhmfaaChars
set_option linter.unusedVariables false
set_option linter.unusedSimpArgs false
set_option maxRecDepth 100000
set_option maxHeartbeats 8000000
namespace Go.Proofs.Ytladdhfkmnhmfaa
open Go.Vi
variable {m : Int}

def baseI (hex : Bool) : Int := if hex then 16 else 10
theorem baseI_t : baseI true = 16 := rfl
theorem baseI_f : baseI false = 10 := rfl
def dgt (hex : Bool) (c : UInt8) : Bool := (hex && decide (0 ≤ hexI c.toNat)) || isDigit c.toNat
def nxtN (hex : Bool) (n d : Int) : Int := IntKind.u64.wrap (IntKind.u64.wrap (n * baseI hex) + d)
def limN (hex : Bool) (d : Int) : Int := IntKind.u64.wrap ((18446744073709551615 - d).tdiv (baseI hex))
/-- The digits ahead: how many, their number, whether it was ever too great. -/
def numL (hex : Bool) : List UInt8 → Int → Bool → Nat × Int × Bool
  | [], n, o => (0, n, o)
  | c :: r, n, o => if dgt hex c then
      let p := numL hex r (nxtN hex n (hexI c.toNat)) (o || decide (limN hex (hexI c.toNat) < n))
      (p.1 + 1, p.2)
    else (0, n, o)
theorem numL_le (hex : Bool) : ∀ (r : List UInt8) (n : Int) (o : Bool), (numL hex r n o).1 ≤ r.length
  | [], _, _ => by simp [numL]
  | c :: r, n, o => by
    simp only [numL, List.length_cons]
    split
    · have := numL_le hex r (nxtN hex n (hexI c.toNat)) (o || decide (limN hex (hexI c.toNat) < n))
      simp only; omega
    · simp
theorem isDigit_hex {n : Nat} (h : isDigit n = true) : 0 ≤ hexI n ∧ hexI n ≤ 9 := by
  simp only [isDigit, decide_eq_true_eq] at h
  simp only [hexI, h, and_self, if_true]; omega
theorem hex_isDigit {n : Nat} (h : 0 ≤ hexI n) (h9 : hexI n ≤ 9) : isDigit n = true := by
  simp only [isDigit, decide_eq_true_eq]
  by_cases h1 : 48 ≤ n ∧ n ≤ 57
  · exact h1
  simp only [hexI, h1, if_false] at h h9
  split at h
  · rename_i g; simp only [g, and_self, if_true] at h9; omega
  rename_i g
  simp only [g, if_false] at h9
  split at h
  · rename_i g; simp only [g, and_self, if_true] at h9; omega
  · omega
theorem dgt_hex {hex : Bool} {c : UInt8} (h : dgt hex c = true) : 0 ≤ hexI c.toNat := by
  simp only [dgt, Bool.or_eq_true, Bool.and_eq_true, decide_eq_true_eq] at h
  rcases h with h | h
  · exact h.2
  · exact (isDigit_hex h).1

def overI (o : Bool) : Int := if o then 7 else 0
def nb_st (s : List UInt8) (hex : Bool) (i : Nat) (n : Int) (o : Bool) (fr : Int) : St :=
  { env := [(0, .d (.str s)), (3, .d (.int .u64 n)), (4, .d (.int .i64 (overI o))), (5, .d (.int .u64 (baseI hex))), (6, .d (.int .i64 i)), (7, .d (.int .i64 fr))], bx := [] }
def nb_end (s : List UInt8) (hex : Bool) (i : Nat) (n : Int) (o : Bool) (fr : Int) : St :=
  { env := [(0, .d (.str s)), (3, .d (.int .u64 n)), (4, .d (.int .i64 (overI o))), (5, .d (.int .u64 (baseI hex))), (6, .d (.int .i64 i)), (7, .d (.int .i64 fr)), (32, .d (.bool false))], bx := [] }
theorem nb_stop (s : List UInt8) (hex : Bool) (i : Nat) (n : Int) (o : Bool) (fr : Int) (hs : s.length ≤ 140737488355328) (hi : i = s.length ∨ ∃ c, s[i]? = some c ∧ dgt hex c = false) :
    X (M m) (.loop l_lex_number_3) (nb_st s hex i n o fr) = some (.exit 0, nb_end s hex i n o fr) := by
  refine loop_exit ?_ (by simp)
  rcases hi with rfl | ⟨c, hg, hd⟩
  · simp -implicitDefEqProofs (maxSteps := 1000000) (disch := omega) only [↓Int.reduceLT, ↓Int.reduceLE, ↓Int.reduceEq, ↓Nat.reduceEqDiff, Nat.reduceBEq, ↓reduceIte, St.toRS, restrict, initEnv, plainArgs, reduceCtorEq, Nat.reduceEqDiff, Nat.reduceAdd, Nat.reduceMul, Int.reduceLT, Int.reduceLE, Int.reduceEq, Int.reduceNeg, Int.reduceAdd, Int.reduceToNat, Int.reduceNe, Nat.reduceSub, Int.reducePow, Int.reduceMul, vb0, vb1, vb2, vb3, vb4, vb5, vb6, vb7, l_lex_number_3, nb_st, nb_end]
  · have hi : i < s.length := (List.getElem?_eq_some_iff.1 hg).1
    have q1 := qdigit_spec (m := m) c
    have q2 := digit_spec (m := m) c
    simp only [dgt, Bool.or_eq_false_iff] at hd
    rw [hd.2] at q2
    cases hex with
    | true =>
      have h0 : hexI c.toNat < 0 := by simpa using hd.1
      simp -implicitDefEqProofs (maxSteps := 1000000) (disch := omega) only [↓Int.reduceLT, ↓Int.reduceLE, ↓Int.reduceEq, ↓Nat.reduceEqDiff, Nat.reduceBEq, ↓reduceIte, St.toRS, restrict, initEnv, plainArgs, reduceCtorEq, Nat.reduceEqDiff, Nat.reduceAdd, Nat.reduceMul, Int.reduceLT, Int.reduceLE, Int.reduceEq, Int.reduceNeg, Int.reduceAdd, Int.reduceToNat, Int.reduceNe, Nat.reduceSub, Int.reducePow, Int.reduceMul, vb0, vb1, vb2, vb3, vb4, vb5, vb6, vb7, l_lex_number_3, nb_st, nb_end, hg, q1, q2, baseI]
    | false => simp -implicitDefEqProofs (maxSteps := 1000000) (disch := omega) only [↓Int.reduceLT, ↓Int.reduceLE, ↓Int.reduceEq, ↓Nat.reduceEqDiff, Nat.reduceBEq, ↓reduceIte, St.toRS, restrict, initEnv, plainArgs, reduceCtorEq, Nat.reduceEqDiff, Nat.reduceAdd, Nat.reduceMul, Int.reduceLT, Int.reduceLE, Int.reduceEq, Int.reduceNeg, Int.reduceAdd, Int.reduceToNat, Int.reduceNe, Nat.reduceSub, Int.reducePow, Int.reduceMul, vb0, vb1, vb2, vb3, vb4, vb5, vb6, vb7, l_lex_number_3, nb_st, nb_end, hg, q1, q2, baseI]
theorem nb_go (s : List UInt8) (hex : Bool) (i : Nat) (n : Int) (o : Bool) (fr : Int) (hs : s.length ≤ 140737488355328) (c : UInt8) (hg : s[i]? = some c) (hd : dgt hex c = true) :
    X (M m) l_lex_number_3 (nb_st s hex i n o fr) = some (.norm, nb_st s hex (i + 1) (nxtN hex n (hexI c.toNat)) (o || decide (limN hex (hexI c.toNat) < n)) fr) := by
  have hi : i < s.length := (List.getElem?_eq_some_iff.1 hg).1
  have q1 := qdigit_spec (m := m) c
  have q2 := digit_spec (m := m) c
  have h0 := dgt_hex hd
  have hr := hexI_range c.toNat
  have e1 : IntKind.u64.wrap (hexI c.toNat) = hexI c.toNat := wrap_u64 (by omega) (by omega)
  have e2 : IntKind.u64.wrap (18446744073709551615 - hexI c.toNat) = 18446744073709551615 - hexI c.toNat := wrap_u64 (by omega) (by omega)
  have e3 : IntKind.u64.wrap (baseI hex * n) = IntKind.u64.wrap (n * baseI hex) := by rw [Int.mul_comm]
  have hb : baseI hex ≠ 0 := by cases hex <;> decide
  cases ho : decide (limN hex (hexI c.toNat) < n) with
  | true =>
    have ho' : limN hex (hexI c.toNat) < n := of_decide_eq_true ho
    simp only [limN] at ho'
    cases hex with
    | true =>
      simp only [baseI_t] at e3 ho' hb ⊢
      simp -implicitDefEqProofs (maxSteps := 1000000) (disch := omega) only [↓Int.reduceLT, ↓Int.reduceLE, ↓Int.reduceEq, ↓Nat.reduceEqDiff, Nat.reduceBEq, ↓reduceIte, St.toRS, restrict, initEnv, plainArgs, reduceCtorEq, Nat.reduceEqDiff, Nat.reduceAdd, Nat.reduceMul, Int.reduceLT, Int.reduceLE, Int.reduceEq, Int.reduceNeg, Int.reduceAdd, Int.reduceToNat, Int.reduceNe, Nat.reduceSub, Int.reducePow, Int.reduceMul, vb0, vb1, vb2, vb3, vb4, vb5, vb6, vb7, l_lex_number_3, nb_st, hg, q1, q2, baseI_t, baseI_f, e1, e2, e3, ho', nxtN, overI, hb]
    | false =>
      simp only [dgt, Bool.false_and, Bool.false_or] at hd
      rw [hd] at q2
      simp only [baseI_f] at e3 ho' hb ⊢
      simp -implicitDefEqProofs (maxSteps := 1000000) (disch := omega) only [↓Int.reduceLT, ↓Int.reduceLE, ↓Int.reduceEq, ↓Nat.reduceEqDiff, Nat.reduceBEq, ↓reduceIte, St.toRS, restrict, initEnv, plainArgs, reduceCtorEq, Nat.reduceEqDiff, Nat.reduceAdd, Nat.reduceMul, Int.reduceLT, Int.reduceLE, Int.reduceEq, Int.reduceNeg, Int.reduceAdd, Int.reduceToNat, Int.reduceNe, Nat.reduceSub, Int.reducePow, Int.reduceMul, vb0, vb1, vb2, vb3, vb4, vb5, vb6, vb7, l_lex_number_3, nb_st, hg, q1, q2, baseI_t, baseI_f, e1, e2, e3, ho', nxtN, overI, hb]
  | false =>
    have ho' : ¬ limN hex (hexI c.toNat) < n := of_decide_eq_false ho
    simp only [limN] at ho'
    cases hex with
    | true =>
      simp only [baseI_t] at e3 ho' hb ⊢
      simp -implicitDefEqProofs (maxSteps := 1000000) (disch := omega) only [↓Int.reduceLT, ↓Int.reduceLE, ↓Int.reduceEq, ↓Nat.reduceEqDiff, Nat.reduceBEq, ↓reduceIte, St.toRS, restrict, initEnv, plainArgs, reduceCtorEq, Nat.reduceEqDiff, Nat.reduceAdd, Nat.reduceMul, Int.reduceLT, Int.reduceLE, Int.reduceEq, Int.reduceNeg, Int.reduceAdd, Int.reduceToNat, Int.reduceNe, Nat.reduceSub, Int.reducePow, Int.reduceMul, vb0, vb1, vb2, vb3, vb4, vb5, vb6, vb7, l_lex_number_3, nb_st, hg, q1, q2, baseI_t, baseI_f, e1, e2, e3, ho', nxtN, overI, hb]
    | false =>
      simp only [dgt, Bool.false_and, Bool.false_or] at hd
      rw [hd] at q2
      simp only [baseI_f] at e3 ho' hb ⊢
      simp -implicitDefEqProofs (maxSteps := 1000000) (disch := omega) only [↓Int.reduceLT, ↓Int.reduceLE, ↓Int.reduceEq, ↓Nat.reduceEqDiff, Nat.reduceBEq, ↓reduceIte, St.toRS, restrict, initEnv, plainArgs, reduceCtorEq, Nat.reduceEqDiff, Nat.reduceAdd, Nat.reduceMul, Int.reduceLT, Int.reduceLE, Int.reduceEq, Int.reduceNeg, Int.reduceAdd, Int.reduceToNat, Int.reduceNe, Nat.reduceSub, Int.reducePow, Int.reduceMul, vb0, vb1, vb2, vb3, vb4, vb5, vb6, vb7, l_lex_number_3, nb_st, hg, q1, q2, baseI_t, baseI_f, e1, e2, e3, ho', nxtN, overI, hb]
theorem nb_loop (s : List UInt8) (hex : Bool) (fr : Int) (hs : s.length ≤ 140737488355328) : ∀ (f i : Nat) (n : Int) (o : Bool), i ≤ s.length → s.length - i ≤ f →
    X (M m) (.loop l_lex_number_3) (nb_st s hex i n o fr) = some (.exit 0, nb_end s hex (i + (numL hex (s.drop i) n o).1) (numL hex (s.drop i) n o).2.1 (numL hex (s.drop i) n o).2.2 fr) := by
  intro f
  induction f with
  | zero =>
    intro i n o hi hf
    obtain rfl : i = s.length := by omega
    rw [nb_stop s hex s.length n o fr hs (Or.inl rfl), List.drop_length]
    rfl
  | succ f ih =>
    intro i n o hi hf
    rcases Nat.lt_or_ge i s.length with hlt | hge
    · have hg : s[i]? = some s[i] := by simp [hlt]
      rw [List.drop_eq_getElem_cons hlt, numL]
      generalize s[i] = c at hg
      cases hd : dgt hex c with
      | false => rw [nb_stop s hex i n o fr hs (Or.inr ⟨c, hg, hd⟩)]; rfl
      | true =>
        rw [X_loop, nb_go s hex i n o fr hs c hg hd]
        have := ih (i + 1) (nxtN hex n (hexI c.toNat)) (o || decide (limN hex (hexI c.toNat) < n)) (by omega) (by omega)
        simp only [if_true]
        rw [Nat.add_assoc, Nat.add_comm 1] at this
        exact this
    · obtain rfl : i = s.length := by omega
      rw [nb_stop s hex s.length n o fr hs (Or.inl rfl), List.drop_length]
      rfl

/-- A number's form: how long it is, its value, the error. -/
def numberL (s : List UInt8) : Nat × Int × Int :=
  let hex := decide (s.take 2 = [48, 120])
  let fr := if hex then 2 else 0
  let p := numL hex (s.drop fr) 0 false
  if p.1 = 0 ∨ 0 < wl (s.drop (fr + p.1)) then (0, 0, 11) else (fr + p.1, p.2.1, overI p.2.2)
theorem number_spec (s : List UInt8) (hs : s.length ≤ 140737488355328) : C (M m) 18 [.d (.str s)] = some (.tup [.int .i64 (numberL s).1, .int .u64 (numberL s).2.1, .int .i64 (numberL s).2.2]) := by
  rw [c_fn (sf := f_lex_number) rfl rfl ⟨rfl, rfl⟩]
  have hp := has_spec (m := m) s [48, 120] hs (by decide)
  simp only [List.length_cons, List.length_nil, Nat.zero_add, Nat.reduceAdd] at hp
  cases hx : decide (s.take 2 = [48, 120]) with
  | true =>
    rw [hx] at hp
    have h2 : 2 ≤ s.length := by
      have := of_decide_eq_true hx
      have := congrArg List.length this
      simp at this; omega
    have hl := nb_loop (m := m) s true 2 hs s.length 2 0 false h2 (by omega)
    have hle := numL_le true (s.drop 2) 0 false
    simp only [List.length_drop] at hle
    generalize hq : numL true (s.drop 2) 0 false = p at *
    have hn := named_spec (m := m) s (2 + p.1) hs (by omega)
    simp only [nb_st, nb_end, baseI, overI, Bool.false_eq_true, if_false, if_true, Int.cast_ofNat_Int] at hl
    have e : numberL s = if p.1 = 0 ∨ 0 < wl (s.drop (2 + p.1)) then (0, 0, 11) else (2 + p.1, p.2.1, overI p.2.2) := by simp only [numberL, hx, if_true, hq]
    rw [e]
    have hwl := wl_le (s.drop (2 + p.1))
    simp only [List.length_drop] at hwl
    by_cases h0 : p.1 = 0
    · rw [if_pos (Or.inl h0)]
      simp -implicitDefEqProofs (maxSteps := 1000000) (disch := omega) only [↓Int.reduceLT, ↓Int.reduceLE, ↓Int.reduceEq, ↓Nat.reduceEqDiff, Nat.reduceBEq, ↓reduceIte, St.toRS, restrict, initEnv, plainArgs, reduceCtorEq, Nat.reduceEqDiff, Nat.reduceAdd, Nat.reduceMul, Int.reduceLT, Int.reduceLE, Int.reduceEq, Int.reduceNeg, Int.reduceAdd, Int.reduceToNat, Int.reduceNe, Nat.reduceSub, Int.reducePow, Int.reduceMul, vb0, vb1, vb2, vb3, vb4, vb5, vb6, vb7, f_lex_number, hp, hl]
    by_cases hw : 0 < wl (s.drop (2 + p.1))
    · rw [if_pos (Or.inr hw)]
      simp -implicitDefEqProofs (maxSteps := 1000000) (disch := omega) only [↓Int.reduceLT, ↓Int.reduceLE, ↓Int.reduceEq, ↓Nat.reduceEqDiff, Nat.reduceBEq, ↓reduceIte, St.toRS, restrict, initEnv, plainArgs, reduceCtorEq, Nat.reduceEqDiff, Nat.reduceAdd, Nat.reduceMul, Int.reduceLT, Int.reduceLE, Int.reduceEq, Int.reduceNeg, Int.reduceAdd, Int.reduceToNat, Int.reduceNe, Nat.reduceSub, Int.reducePow, Int.reduceMul, vb0, vb1, vb2, vb3, vb4, vb5, vb6, vb7, f_lex_number, hp, hl, hn]
    · rw [if_neg (by omega)]
      simp -implicitDefEqProofs (maxSteps := 1000000) (disch := omega) only [↓Int.reduceLT, ↓Int.reduceLE, ↓Int.reduceEq, ↓Nat.reduceEqDiff, Nat.reduceBEq, ↓reduceIte, St.toRS, restrict, initEnv, plainArgs, reduceCtorEq, Nat.reduceEqDiff, Nat.reduceAdd, Nat.reduceMul, Int.reduceLT, Int.reduceLE, Int.reduceEq, Int.reduceNeg, Int.reduceAdd, Int.reduceToNat, Int.reduceNe, Nat.reduceSub, Int.reducePow, Int.reduceMul, vb0, vb1, vb2, vb3, vb4, vb5, vb6, vb7, f_lex_number, hp, hl, hn, overI]
  | false =>
    rw [hx] at hp
    have hl := nb_loop (m := m) s false 0 hs s.length 0 0 false (by omega) (by omega)
    have hle := numL_le false (s.drop 0) 0 false
    simp only [List.length_drop] at hle
    generalize hq : numL false (s.drop 0) 0 false = p at *
    have hn := named_spec (m := m) s (0 + p.1) hs (by omega)
    simp only [nb_st, nb_end, baseI, overI, Bool.false_eq_true, if_false, if_true, Int.cast_ofNat_Int, Nat.zero_add] at hl hn
    have e : numberL s = if p.1 = 0 ∨ 0 < wl (s.drop (0 + p.1)) then (0, 0, 11) else (0 + p.1, p.2.1, overI p.2.2) := by simp only [numberL, hx, Bool.false_eq_true, if_false, hq]
    rw [e]
    simp only [Nat.zero_add]
    have hwl := wl_le (s.drop p.1)
    simp only [List.length_drop] at hwl
    by_cases h0 : p.1 = 0
    · rw [if_pos (Or.inl h0)]
      simp -implicitDefEqProofs (maxSteps := 1000000) (disch := omega) only [↓Int.reduceLT, ↓Int.reduceLE, ↓Int.reduceEq, ↓Nat.reduceEqDiff, Nat.reduceBEq, ↓reduceIte, St.toRS, restrict, initEnv, plainArgs, reduceCtorEq, Nat.reduceEqDiff, Nat.reduceAdd, Nat.reduceMul, Int.reduceLT, Int.reduceLE, Int.reduceEq, Int.reduceNeg, Int.reduceAdd, Int.reduceToNat, Int.reduceNe, Nat.reduceSub, Int.reducePow, Int.reduceMul, vb0, vb1, vb2, vb3, vb4, vb5, vb6, vb7, f_lex_number, hp, hl]
    by_cases hw : 0 < wl (s.drop p.1)
    · rw [if_pos (Or.inr hw)]
      simp -implicitDefEqProofs (maxSteps := 1000000) (disch := omega) only [↓Int.reduceLT, ↓Int.reduceLE, ↓Int.reduceEq, ↓Nat.reduceEqDiff, Nat.reduceBEq, ↓reduceIte, St.toRS, restrict, initEnv, plainArgs, reduceCtorEq, Nat.reduceEqDiff, Nat.reduceAdd, Nat.reduceMul, Int.reduceLT, Int.reduceLE, Int.reduceEq, Int.reduceNeg, Int.reduceAdd, Int.reduceToNat, Int.reduceNe, Nat.reduceSub, Int.reducePow, Int.reduceMul, vb0, vb1, vb2, vb3, vb4, vb5, vb6, vb7, f_lex_number, hp, hl, hn]
    · rw [if_neg (by omega)]
      simp -implicitDefEqProofs (maxSteps := 1000000) (disch := omega) only [↓Int.reduceLT, ↓Int.reduceLE, ↓Int.reduceEq, ↓Nat.reduceEqDiff, Nat.reduceBEq, ↓reduceIte, St.toRS, restrict, initEnv, plainArgs, reduceCtorEq, Nat.reduceEqDiff, Nat.reduceAdd, Nat.reduceMul, Int.reduceLT, Int.reduceLE, Int.reduceEq, Int.reduceNeg, Int.reduceAdd, Int.reduceToNat, Int.reduceNe, Nat.reduceSub, Int.reducePow, Int.reduceMul, vb0, vb1, vb2, vb3, vb4, vb5, vb6, vb7, f_lex_number, hp, hl, hn, overI]
end Go.Proofs.Ytladdhfkmnhmfaa
