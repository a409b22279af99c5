/-
  What the reference's number answers: over data.
-/
import Derived.Test.YtladdhfkmnhmfaaNum
set_option linter.unusedVariables false
set_option linter.unusedSimpArgs false
set_option maxRecDepth 100000
set_option maxHeartbeats 8000000
namespace Go.Proofs.Ytladdhfkmnhmfaa
open Go.Vi
variable {m : Int}

def rb_st (s : List UInt8) (hex : Bool) (i : Nat) (n : Int) (o : Bool) (fr : Int) : St :=
  { env := [(0, .d (.str s)), (7, .d (.int .i64 i)), (8, .d (.bool hex)), (9, .d (.int .u64 (baseI hex))), (10, .d (.int .i64 fr)), (11, .d (.int .u64 n)), (12, .d (.bool o))], bx := [] }
theorem rb_stop (s : List UInt8) (hex : Bool) (i : Nat) (n : Int) (o : Bool) (fr : Int) (hs : s.length ≤ 140737488355328) (hi : i = s.length ∨ ∃ c, s[i]? = some c ∧ dgt hex c = false) :
    ∃ ex, X (M m) (.loop l_ref4_number_5) (rb_st s hex i n o fr) = some (.exit 0, { env := (rb_st s hex i n o fr).env ++ ex, bx := [] }) := by
  rcases hi with rfl | ⟨c, hg, hd⟩
  · refine ⟨[(40, .d (.bool false))], loop_exit ?_ (by simp)⟩
    simp -implicitDefEqProofs (maxSteps := 1000000) (disch := omega) only [↓Int.reduceLT, ↓Int.reduceLE, ↓Int.reduceEq, ↓Nat.reduceEqDiff, Nat.reduceBEq, ↓reduceIte, St.toRS, restrict, initEnv, plainArgs, reduceCtorEq, Nat.reduceEqDiff, Nat.reduceAdd, Nat.reduceMul, Int.reduceLT, Int.reduceLE, Int.reduceEq, Int.reduceNeg, Int.reduceAdd, Int.reduceToNat, Int.reduceNe, Nat.reduceSub, Int.reducePow, Int.reduceMul, vb0, vb1, vb2, vb3, vb4, vb5, vb6, vb7, l_ref4_number_5, rb_st, List.cons_append, List.nil_append]
  · have hi : i < s.length := (List.getElem?_eq_some_iff.1 hg).1
    have q1 := rhex_spec (m := m) c
    simp only [dgt, Bool.or_eq_false_iff] at hd
    refine ⟨[(13, .d (.int .i64 (hexI c.toNat))), (54, .d (.bool true))], loop_exit ?_ (by simp)⟩
    cases hex with
    | true =>
      have h0 : hexI c.toNat < 0 := by simpa using hd.1
      simp -implicitDefEqProofs (maxSteps := 1000000) (disch := omega) only [↓Int.reduceLT, ↓Int.reduceLE, ↓Int.reduceEq, ↓Nat.reduceEqDiff, Nat.reduceBEq, ↓reduceIte, St.toRS, restrict, initEnv, plainArgs, reduceCtorEq, Nat.reduceEqDiff, Nat.reduceAdd, Nat.reduceMul, Int.reduceLT, Int.reduceLE, Int.reduceEq, Int.reduceNeg, Int.reduceAdd, Int.reduceToNat, Int.reduceNe, Nat.reduceSub, Int.reducePow, Int.reduceMul, vb0, vb1, vb2, vb3, vb4, vb5, vb6, vb7, l_ref4_number_5, rb_st, hg, q1, List.cons_append, List.nil_append]
    | false =>
      by_cases h0 : hexI c.toNat < 0
      · simp -implicitDefEqProofs (maxSteps := 1000000) (disch := omega) only [↓Int.reduceLT, ↓Int.reduceLE, ↓Int.reduceEq, ↓Nat.reduceEqDiff, Nat.reduceBEq, ↓reduceIte, St.toRS, restrict, initEnv, plainArgs, reduceCtorEq, Nat.reduceEqDiff, Nat.reduceAdd, Nat.reduceMul, Int.reduceLT, Int.reduceLE, Int.reduceEq, Int.reduceNeg, Int.reduceAdd, Int.reduceToNat, Int.reduceNe, Nat.reduceSub, Int.reducePow, Int.reduceMul, vb0, vb1, vb2, vb3, vb4, vb5, vb6, vb7, l_ref4_number_5, rb_st, hg, q1, List.cons_append, List.nil_append]
      · have h9 : 9 < hexI c.toNat := by
          rcases Int.lt_or_le 9 (hexI c.toNat) with h | h
          · exact h
          · rw [hex_isDigit (by omega) h] at hd; exact absurd hd.2 (by simp)
        simp -implicitDefEqProofs (maxSteps := 1000000) (disch := omega) only [↓Int.reduceLT, ↓Int.reduceLE, ↓Int.reduceEq, ↓Nat.reduceEqDiff, Nat.reduceBEq, ↓reduceIte, St.toRS, restrict, initEnv, plainArgs, reduceCtorEq, Nat.reduceEqDiff, Nat.reduceAdd, Nat.reduceMul, Int.reduceLT, Int.reduceLE, Int.reduceEq, Int.reduceNeg, Int.reduceAdd, Int.reduceToNat, Int.reduceNe, Nat.reduceSub, Int.reducePow, Int.reduceMul, vb0, vb1, vb2, vb3, vb4, vb5, vb6, vb7, l_ref4_number_5, rb_st, hg, q1, List.cons_append, List.nil_append]
theorem rb_go (s : List UInt8) (hex : Bool) (i : Nat) (n : Int) (o : Bool) (fr : Int) (hs : s.length ≤ 140737488355328) (c : UInt8) (hg : s[i]? = some c) (hd : dgt hex c = true) :
    X (M m) l_ref4_number_5 (rb_st s hex i n o fr) = some (.norm, rb_st s hex (i + 1) (nxtN hex n (hexI c.toNat)) (o || decide (limN hex (hexI c.toNat) < n)) fr) := by
  have hi : i < s.length := (List.getElem?_eq_some_iff.1 hg).1
  have q1 := rhex_spec (m := m) c
  have h0 := dgt_hex hd
  have hr := hexI_range c.toNat
  have e1 : IntKind.u64.wrap (hexI c.toNat) = hexI c.toNat := wrap_u64 (by omega) (by omega)
  have e2 : IntKind.u64.wrap (18446744073709551615 - hexI c.toNat) = 18446744073709551615 - hexI c.toNat := wrap_u64 (by omega) (by omega)
  have hb : baseI hex ≠ 0 := by cases hex <;> decide
  have h9 : hex = false → hexI c.toNat ≤ 9 := by
    rintro rfl
    simp only [dgt, Bool.false_and, Bool.false_or] at hd
    exact (isDigit_hex hd).2
  cases ho : decide (limN hex (hexI c.toNat) < n) with
  | true =>
    have ho' : limN hex (hexI c.toNat) < n := of_decide_eq_true ho
    simp only [limN] at ho'
    cases hex with
    | true =>
      simp only [baseI_t] at ho' hb ⊢
      simp -implicitDefEqProofs (maxSteps := 1000000) (disch := omega) only [↓Int.reduceLT, ↓Int.reduceLE, ↓Int.reduceEq, ↓Nat.reduceEqDiff, Nat.reduceBEq, ↓reduceIte, St.toRS, restrict, initEnv, plainArgs, reduceCtorEq, Nat.reduceEqDiff, Nat.reduceAdd, Nat.reduceMul, Int.reduceLT, Int.reduceLE, Int.reduceEq, Int.reduceNeg, Int.reduceAdd, Int.reduceToNat, Int.reduceNe, Nat.reduceSub, Int.reducePow, Int.reduceMul, vb0, vb1, vb2, vb3, vb4, vb5, vb6, vb7, l_ref4_number_5, rb_st, hg, q1, baseI_t, e1, e2, ho', nxtN, hb]
    | false =>
      have h9 := h9 rfl
      simp only [baseI_f] at ho' hb ⊢
      simp -implicitDefEqProofs (maxSteps := 1000000) (disch := omega) only [↓Int.reduceLT, ↓Int.reduceLE, ↓Int.reduceEq, ↓Nat.reduceEqDiff, Nat.reduceBEq, ↓reduceIte, St.toRS, restrict, initEnv, plainArgs, reduceCtorEq, Nat.reduceEqDiff, Nat.reduceAdd, Nat.reduceMul, Int.reduceLT, Int.reduceLE, Int.reduceEq, Int.reduceNeg, Int.reduceAdd, Int.reduceToNat, Int.reduceNe, Nat.reduceSub, Int.reducePow, Int.reduceMul, vb0, vb1, vb2, vb3, vb4, vb5, vb6, vb7, l_ref4_number_5, rb_st, hg, q1, baseI_f, e1, e2, ho', nxtN, hb]
  | false =>
    have ho' : ¬ limN hex (hexI c.toNat) < n := of_decide_eq_false ho
    simp only [limN] at ho'
    cases hex with
    | true =>
      simp only [baseI_t] at ho' hb ⊢
      simp -implicitDefEqProofs (maxSteps := 1000000) (disch := omega) only [↓Int.reduceLT, ↓Int.reduceLE, ↓Int.reduceEq, ↓Nat.reduceEqDiff, Nat.reduceBEq, ↓reduceIte, St.toRS, restrict, initEnv, plainArgs, reduceCtorEq, Nat.reduceEqDiff, Nat.reduceAdd, Nat.reduceMul, Int.reduceLT, Int.reduceLE, Int.reduceEq, Int.reduceNeg, Int.reduceAdd, Int.reduceToNat, Int.reduceNe, Nat.reduceSub, Int.reducePow, Int.reduceMul, vb0, vb1, vb2, vb3, vb4, vb5, vb6, vb7, l_ref4_number_5, rb_st, hg, q1, baseI_t, e1, e2, ho', nxtN, hb]
    | false =>
      have h9 := h9 rfl
      simp only [baseI_f] at ho' hb ⊢
      simp -implicitDefEqProofs (maxSteps := 1000000) (disch := omega) only [↓Int.reduceLT, ↓Int.reduceLE, ↓Int.reduceEq, ↓Nat.reduceEqDiff, Nat.reduceBEq, ↓reduceIte, St.toRS, restrict, initEnv, plainArgs, reduceCtorEq, Nat.reduceEqDiff, Nat.reduceAdd, Nat.reduceMul, Int.reduceLT, Int.reduceLE, Int.reduceEq, Int.reduceNeg, Int.reduceAdd, Int.reduceToNat, Int.reduceNe, Nat.reduceSub, Int.reducePow, Int.reduceMul, vb0, vb1, vb2, vb3, vb4, vb5, vb6, vb7, l_ref4_number_5, rb_st, hg, q1, baseI_f, e1, e2, ho', nxtN, hb]
theorem rb_loop (s : List UInt8) (hex : Bool) (fr : Int) (hs : s.length ≤ 140737488355328) : ∀ (f i : Nat) (n : Int) (o : Bool), i ≤ s.length → s.length - i ≤ f →
    ∃ ex, X (M m) (.loop l_ref4_number_5) (rb_st s hex i n o fr) = some (.exit 0, { env := (rb_st s hex (i + (numL hex (s.drop i) n o).1) (numL hex (s.drop i) n o).2.1 (numL hex (s.drop i) n o).2.2 fr).env ++ ex, bx := [] }) := by
  intro f
  induction f with
  | zero =>
    intro i n o hi hf
    obtain rfl : i = s.length := by omega
    rw [List.drop_length]
    exact rb_stop s hex s.length n o fr hs (Or.inl rfl)
  | succ f ih =>
    intro i n o hi hf
    rcases Nat.lt_or_ge i s.length with hlt | hge
    · have hg : s[i]? = some s[i] := by simp [hlt]
      rw [List.drop_eq_getElem_cons hlt, numL]
      generalize s[i] = c at hg
      cases hd : dgt hex c with
      | false => exact rb_stop s hex i n o fr hs (Or.inr ⟨c, hg, hd⟩)
      | true =>
        rw [X_loop, rb_go s hex i n o fr hs c hg hd]
        have := ih (i + 1) (nxtN hex n (hexI c.toNat)) (o || decide (limN hex (hexI c.toNat) < n)) (by omega) (by omega)
        simp only [if_true]
        rw [Nat.add_assoc, Nat.add_comm 1] at this
        exact this
    · obtain rfl : i = s.length := by omega
      rw [List.drop_length]
      exact rb_stop s hex s.length n o fr hs (Or.inl rfl)

theorem wl_pos (s : List UInt8) (k : Nat) : 0 < wl (s.drop k) ↔ ∃ c, s[k]? = some c ∧ (isLetter c.toNat = true ∨ isDigit c.toNat = true) := by
  rcases Nat.lt_or_ge k s.length with h | h
  · rw [List.drop_eq_getElem_cons h, wl]
    have hg : s[k]? = some s[k] := by simp [h]
    rw [hg]
    by_cases hc : isLetter s[k].toNat = true ∨ isDigit s[k].toNat = true
    · have : (isLetter s[k].toNat || isDigit s[k].toNat) = true := by simpa using hc
      rw [this]
      simp [hc]
    · have : (isLetter s[k].toNat || isDigit s[k].toNat) = false := by
        cases h1 : isLetter s[k].toNat <;> cases h2 : isDigit s[k].toNat <;> simp [h1, h2] at hc ⊢
      rw [this]
      simp [hc]
  · rw [List.drop_eq_nil_of_le h, List.getElem?_eq_none h]
    simp [wl]

/-- What the reference makes of a number's form. -/
def rnumberL (at_ : Nat) (p : Nat × Int × Int) : Int × Int × Int := if p.2.2 = 0 then (at_ + p.1, p.2.1, 0) else (0, 0, p.2.2)
theorem rnumber_spec (t : List UInt8) (i : Nat) (hs : t.length ≤ 140737488355328) (hi : i < t.length) :
    C (M m) 25 [.d (.str t), .d (.int .i64 i)] = some (.tup [.int .i64 (rnumberL i (numberL (t.drop i))).1, .int .u64 (rnumberL i (numberL (t.drop i))).2.1, .int .i64 (rnumberL i (numberL (t.drop i))).2.2]) := by
  rw [c_fn (sf := f_ref4_number) rfl rfl ⟨rfl, rfl⟩]
  have hg : t[i]? = some t[i] := by simp [hi]
  have fin : ∀ (hex : Bool) (k : Nat), hex = decide ((t.drop i).take 2 = [48, 120]) → k = i + (if hex then 2 else 0) → k ≤ t.length →
      ∃ (ex : List (Nat × V)) (p : Nat × Int × Bool), p.1 ≤ t.length - k ∧ X (M m) (.loop l_ref4_number_5) (rb_st t hex k 0 false k) = some (.exit 0, { env := (rb_st t hex (k + p.1) p.2.1 p.2.2 k).env ++ ex, bx := [] }) ∧
        numberL (t.drop i) = if p.1 = 0 ∨ 0 < wl (t.drop (k + p.1)) then (0, 0, 11) else ((if hex then 2 else 0) + p.1, p.2.1, overI p.2.2) := by
    intro hex k hh hk hkl
    obtain ⟨ex, hx⟩ := rb_loop (m := m) t hex k hs t.length k 0 false hkl (by omega)
    refine ⟨ex, numL hex (t.drop k) 0 false, ?_, hx, ?_⟩
    · have := numL_le hex (t.drop k) 0 false
      simpa using this
    · simp only [numberL, ← hh, List.drop_drop, hk, Nat.add_assoc]
  have over7 : ∀ o, overI o = 0 ↔ o = false := by intro o; cases o <;> simp [overI]
  by_cases h48 : (t.drop i).take 2 = [48, 120]
  · have h2 : i + 1 < t.length := by
      have := congrArg List.length h48
      simp at this; omega
    have hg1 : t[i + 1]? = some t[i + 1] := by simp [h2]
    rw [List.drop_eq_getElem_cons hi, List.drop_eq_getElem_cons h2] at h48
    simp only [List.take_succ_cons, List.take_zero, List.cons.injEq, and_true] at h48
    rw [h48.1] at hg
    rw [h48.2] at hg1
    obtain ⟨ex, p, hp, hx, hn⟩ := fin true (i + 2) (by rw [List.drop_eq_getElem_cons hi, List.drop_eq_getElem_cons h2]; simp [h48]) rfl (by omega)
    simp only [rb_st, baseI_t, List.cons_append, List.nil_append] at hx
    rw [hn]
    obtain ⟨len, n, o⟩ := p
    simp only at hp hx hn ⊢
    have c48 : ((UInt8.toNat 48 : Nat) : Int) = 48 := rfl
    have c120 : ((UInt8.toNat 120 : Nat) : Int) = 120 := rfl
    by_cases hz : len = 0
    · rw [if_pos (Or.inl hz)]
      simp -implicitDefEqProofs (maxSteps := 1000000) (disch := omega) only [↓Int.reduceLT, ↓Int.reduceLE, ↓Int.reduceEq, ↓Nat.reduceEqDiff, Nat.reduceBEq, ↓reduceIte, St.toRS, restrict, initEnv, plainArgs, reduceCtorEq, Nat.reduceEqDiff, Nat.reduceAdd, Nat.reduceMul, Int.reduceLT, Int.reduceLE, Int.reduceEq, Int.reduceNeg, Int.reduceAdd, Int.reduceToNat, Int.reduceNe, Nat.reduceSub, Int.reducePow, Int.reduceMul, vb0, vb1, vb2, vb3, vb4, vb5, vb6, vb7, f_ref4_number, hg, hg1, c48, c120, hx, rnumberL]
    by_cases hw : 0 < wl (t.drop (i + 2 + len))
    · rw [if_pos (Or.inr hw)]
      obtain ⟨c, hc, hcl⟩ := (wl_pos _ _).1 hw
      have hlt : i + 2 + len < t.length := (List.getElem?_eq_some_iff.1 hc).1
      have q1 := rletter_spec (m := m) c
      have q2 := rdigit_spec (m := m) c
      cases hlc : isLetter c.toNat with
      | true =>
        rw [hlc] at q1
        simp -implicitDefEqProofs (maxSteps := 1000000) (disch := omega) only [↓Int.reduceLT, ↓Int.reduceLE, ↓Int.reduceEq, ↓Nat.reduceEqDiff, Nat.reduceBEq, ↓reduceIte, St.toRS, restrict, initEnv, plainArgs, reduceCtorEq, Nat.reduceEqDiff, Nat.reduceAdd, Nat.reduceMul, Int.reduceLT, Int.reduceLE, Int.reduceEq, Int.reduceNeg, Int.reduceAdd, Int.reduceToNat, Int.reduceNe, Nat.reduceSub, Int.reducePow, Int.reduceMul, vb0, vb1, vb2, vb3, vb4, vb5, vb6, vb7, f_ref4_number, hg, hg1, c48, c120, hx, rnumberL, hc, q1]
      | false =>
        rw [hlc] at q1 hcl
        have : isDigit c.toNat = true := by simpa using hcl
        rw [this] at q2
        simp -implicitDefEqProofs (maxSteps := 1000000) (disch := omega) only [↓Int.reduceLT, ↓Int.reduceLE, ↓Int.reduceEq, ↓Nat.reduceEqDiff, Nat.reduceBEq, ↓reduceIte, St.toRS, restrict, initEnv, plainArgs, reduceCtorEq, Nat.reduceEqDiff, Nat.reduceAdd, Nat.reduceMul, Int.reduceLT, Int.reduceLE, Int.reduceEq, Int.reduceNeg, Int.reduceAdd, Int.reduceToNat, Int.reduceNe, Nat.reduceSub, Int.reducePow, Int.reduceMul, vb0, vb1, vb2, vb3, vb4, vb5, vb6, vb7, f_ref4_number, hg, hg1, c48, c120, hx, rnumberL, hc, q1, q2]
    · rw [if_neg (by omega)]
      have ea : i + (2 + len) = i + 2 + len := by omega
      by_cases hlt : i + 2 + len < t.length
      · have hc : t[i + 2 + len]? = some t[i + 2 + len] := by simp [hlt]
        have hno := mt (wl_pos t (i + 2 + len)).2 hw
        generalize t[i + 2 + len] = c at hc
        have q1 := rletter_spec (m := m) c
        have q2 := rdigit_spec (m := m) c
        have n1 : isLetter c.toNat = false := by cases h : isLetter c.toNat with | false => rfl | true => exact absurd ⟨c, hc, Or.inl h⟩ hno
        have n2 : isDigit c.toNat = false := by cases h : isDigit c.toNat with | false => rfl | true => exact absurd ⟨c, hc, Or.inr h⟩ hno
        rw [n1] at q1
        rw [n2] at q2
        cases o with
        | true => simp -implicitDefEqProofs (maxSteps := 1000000) (disch := omega) only [↓Int.reduceLT, ↓Int.reduceLE, ↓Int.reduceEq, ↓Nat.reduceEqDiff, Nat.reduceBEq, ↓reduceIte, St.toRS, restrict, initEnv, plainArgs, reduceCtorEq, Nat.reduceEqDiff, Nat.reduceAdd, Nat.reduceMul, Int.reduceLT, Int.reduceLE, Int.reduceEq, Int.reduceNeg, Int.reduceAdd, Int.reduceToNat, Int.reduceNe, Nat.reduceSub, Int.reducePow, Int.reduceMul, vb0, vb1, vb2, vb3, vb4, vb5, vb6, vb7, f_ref4_number, hg, hg1, c48, c120, hx, rnumberL, hc, q1, q2, overI, ea]
        | false => simp -implicitDefEqProofs (maxSteps := 1000000) (disch := omega) only [↓Int.reduceLT, ↓Int.reduceLE, ↓Int.reduceEq, ↓Nat.reduceEqDiff, Nat.reduceBEq, ↓reduceIte, St.toRS, restrict, initEnv, plainArgs, reduceCtorEq, Nat.reduceEqDiff, Nat.reduceAdd, Nat.reduceMul, Int.reduceLT, Int.reduceLE, Int.reduceEq, Int.reduceNeg, Int.reduceAdd, Int.reduceToNat, Int.reduceNe, Nat.reduceSub, Int.reducePow, Int.reduceMul, vb0, vb1, vb2, vb3, vb4, vb5, vb6, vb7, f_ref4_number, hg, hg1, c48, c120, hx, rnumberL, hc, q1, q2, overI, ea]
      · cases o with
        | true => simp -implicitDefEqProofs (maxSteps := 1000000) (disch := omega) only [↓Int.reduceLT, ↓Int.reduceLE, ↓Int.reduceEq, ↓Nat.reduceEqDiff, Nat.reduceBEq, ↓reduceIte, St.toRS, restrict, initEnv, plainArgs, reduceCtorEq, Nat.reduceEqDiff, Nat.reduceAdd, Nat.reduceMul, Int.reduceLT, Int.reduceLE, Int.reduceEq, Int.reduceNeg, Int.reduceAdd, Int.reduceToNat, Int.reduceNe, Nat.reduceSub, Int.reducePow, Int.reduceMul, vb0, vb1, vb2, vb3, vb4, vb5, vb6, vb7, f_ref4_number, hg, hg1, c48, c120, hx, rnumberL, overI, ea]
        | false => simp -implicitDefEqProofs (maxSteps := 1000000) (disch := omega) only [↓Int.reduceLT, ↓Int.reduceLE, ↓Int.reduceEq, ↓Nat.reduceEqDiff, Nat.reduceBEq, ↓reduceIte, St.toRS, restrict, initEnv, plainArgs, reduceCtorEq, Nat.reduceEqDiff, Nat.reduceAdd, Nat.reduceMul, Int.reduceLT, Int.reduceLE, Int.reduceEq, Int.reduceNeg, Int.reduceAdd, Int.reduceToNat, Int.reduceNe, Nat.reduceSub, Int.reducePow, Int.reduceMul, vb0, vb1, vb2, vb3, vb4, vb5, vb6, vb7, f_ref4_number, hg, hg1, c48, c120, hx, rnumberL, overI, ea]
  · have hd : decide ((t.drop i).take 2 = [48, 120]) = false := decide_eq_false h48
    obtain ⟨ex, p, hp, hx, hn⟩ := fin false i hd.symm rfl (by omega)
    simp only [rb_st, baseI_f, List.cons_append, List.nil_append] at hx
    rw [hn]
    obtain ⟨len, n, o⟩ := p
    simp only [Bool.false_eq_true, if_false, Nat.zero_add] at hp hx hn ⊢
    by_cases c0 : t[i].toNat = 48
    · by_cases h2 : i + 1 < t.length
      · have hg1 : t[i + 1]? = some t[i + 1] := by simp [h2]
        have c1 : t[i + 1].toNat ≠ 120 := by
          intro hc
          apply h48
          rw [List.drop_eq_getElem_cons hi, List.drop_eq_getElem_cons h2]
          have e0 : t[i] = 48 := UInt8.toNat_inj.1 c0
          have e1 : t[i + 1] = 120 := UInt8.toNat_inj.1 hc
          simp [e0, e1]
        generalize t[i] = c0v at hg c0
        generalize t[i + 1] = c1v at hg1 c1
        by_cases hz : len = 0
        · rw [if_pos (Or.inl hz)]
          simp -implicitDefEqProofs (maxSteps := 1000000) (disch := omega) only [↓Int.reduceLT, ↓Int.reduceLE, ↓Int.reduceEq, ↓Nat.reduceEqDiff, Nat.reduceBEq, ↓reduceIte, St.toRS, restrict, initEnv, plainArgs, reduceCtorEq, Nat.reduceEqDiff, Nat.reduceAdd, Nat.reduceMul, Int.reduceLT, Int.reduceLE, Int.reduceEq, Int.reduceNeg, Int.reduceAdd, Int.reduceToNat, Int.reduceNe, Nat.reduceSub, Int.reducePow, Int.reduceMul, vb0, vb1, vb2, vb3, vb4, vb5, vb6, vb7, f_ref4_number, hg, hg1, hx, rnumberL]
        by_cases hw : 0 < wl (t.drop (i + len))
        · rw [if_pos (Or.inr hw)]
          obtain ⟨c, hc, hcl⟩ := (wl_pos _ _).1 hw
          have hlt : i + len < t.length := (List.getElem?_eq_some_iff.1 hc).1
          have q1 := rletter_spec (m := m) c
          have q2 := rdigit_spec (m := m) c
          cases hlc : isLetter c.toNat with
          | true =>
            rw [hlc] at q1
            simp -implicitDefEqProofs (maxSteps := 1000000) (disch := omega) only [↓Int.reduceLT, ↓Int.reduceLE, ↓Int.reduceEq, ↓Nat.reduceEqDiff, Nat.reduceBEq, ↓reduceIte, St.toRS, restrict, initEnv, plainArgs, reduceCtorEq, Nat.reduceEqDiff, Nat.reduceAdd, Nat.reduceMul, Int.reduceLT, Int.reduceLE, Int.reduceEq, Int.reduceNeg, Int.reduceAdd, Int.reduceToNat, Int.reduceNe, Nat.reduceSub, Int.reducePow, Int.reduceMul, vb0, vb1, vb2, vb3, vb4, vb5, vb6, vb7, f_ref4_number, hg, hg1, hx, rnumberL, hc, q1]
          | false =>
            rw [hlc] at q1 hcl
            have : isDigit c.toNat = true := by simpa using hcl
            rw [this] at q2
            simp -implicitDefEqProofs (maxSteps := 1000000) (disch := omega) only [↓Int.reduceLT, ↓Int.reduceLE, ↓Int.reduceEq, ↓Nat.reduceEqDiff, Nat.reduceBEq, ↓reduceIte, St.toRS, restrict, initEnv, plainArgs, reduceCtorEq, Nat.reduceEqDiff, Nat.reduceAdd, Nat.reduceMul, Int.reduceLT, Int.reduceLE, Int.reduceEq, Int.reduceNeg, Int.reduceAdd, Int.reduceToNat, Int.reduceNe, Nat.reduceSub, Int.reducePow, Int.reduceMul, vb0, vb1, vb2, vb3, vb4, vb5, vb6, vb7, f_ref4_number, hg, hg1, hx, rnumberL, hc, q1, q2]
        · rw [if_neg (by omega)]
          by_cases hlt : i + len < t.length
          · have hc : t[i + len]? = some t[i + len] := by simp [hlt]
            have hno := mt (wl_pos t (i + len)).2 hw
            generalize t[i + len] = c at hc
            have q1 := rletter_spec (m := m) c
            have q2 := rdigit_spec (m := m) c
            have n1 : isLetter c.toNat = false := by cases h : isLetter c.toNat with | false => rfl | true => exact absurd ⟨c, hc, Or.inl h⟩ hno
            have n2 : isDigit c.toNat = false := by cases h : isDigit c.toNat with | false => rfl | true => exact absurd ⟨c, hc, Or.inr h⟩ hno
            rw [n1] at q1
            rw [n2] at q2
            cases o with
            | true => simp -implicitDefEqProofs (maxSteps := 1000000) (disch := omega) only [↓Int.reduceLT, ↓Int.reduceLE, ↓Int.reduceEq, ↓Nat.reduceEqDiff, Nat.reduceBEq, ↓reduceIte, St.toRS, restrict, initEnv, plainArgs, reduceCtorEq, Nat.reduceEqDiff, Nat.reduceAdd, Nat.reduceMul, Int.reduceLT, Int.reduceLE, Int.reduceEq, Int.reduceNeg, Int.reduceAdd, Int.reduceToNat, Int.reduceNe, Nat.reduceSub, Int.reducePow, Int.reduceMul, vb0, vb1, vb2, vb3, vb4, vb5, vb6, vb7, f_ref4_number, hg, hg1, hx, rnumberL, hc, q1, q2, overI]
            | false => simp -implicitDefEqProofs (maxSteps := 1000000) (disch := omega) only [↓Int.reduceLT, ↓Int.reduceLE, ↓Int.reduceEq, ↓Nat.reduceEqDiff, Nat.reduceBEq, ↓reduceIte, St.toRS, restrict, initEnv, plainArgs, reduceCtorEq, Nat.reduceEqDiff, Nat.reduceAdd, Nat.reduceMul, Int.reduceLT, Int.reduceLE, Int.reduceEq, Int.reduceNeg, Int.reduceAdd, Int.reduceToNat, Int.reduceNe, Nat.reduceSub, Int.reducePow, Int.reduceMul, vb0, vb1, vb2, vb3, vb4, vb5, vb6, vb7, f_ref4_number, hg, hg1, hx, rnumberL, hc, q1, q2, overI]
          · cases o with
            | true => simp -implicitDefEqProofs (maxSteps := 1000000) (disch := omega) only [↓Int.reduceLT, ↓Int.reduceLE, ↓Int.reduceEq, ↓Nat.reduceEqDiff, Nat.reduceBEq, ↓reduceIte, St.toRS, restrict, initEnv, plainArgs, reduceCtorEq, Nat.reduceEqDiff, Nat.reduceAdd, Nat.reduceMul, Int.reduceLT, Int.reduceLE, Int.reduceEq, Int.reduceNeg, Int.reduceAdd, Int.reduceToNat, Int.reduceNe, Nat.reduceSub, Int.reducePow, Int.reduceMul, vb0, vb1, vb2, vb3, vb4, vb5, vb6, vb7, f_ref4_number, hg, hg1, hx, rnumberL, overI]
            | false => simp -implicitDefEqProofs (maxSteps := 1000000) (disch := omega) only [↓Int.reduceLT, ↓Int.reduceLE, ↓Int.reduceEq, ↓Nat.reduceEqDiff, Nat.reduceBEq, ↓reduceIte, St.toRS, restrict, initEnv, plainArgs, reduceCtorEq, Nat.reduceEqDiff, Nat.reduceAdd, Nat.reduceMul, Int.reduceLT, Int.reduceLE, Int.reduceEq, Int.reduceNeg, Int.reduceAdd, Int.reduceToNat, Int.reduceNe, Nat.reduceSub, Int.reducePow, Int.reduceMul, vb0, vb1, vb2, vb3, vb4, vb5, vb6, vb7, f_ref4_number, hg, hg1, hx, rnumberL, overI]
      · generalize t[i] = c0v at hg c0
        by_cases hz : len = 0
        · rw [if_pos (Or.inl hz)]
          first | (exfalso; omega) | (simp -implicitDefEqProofs (maxSteps := 1000000) (disch := omega) only [↓Int.reduceLT, ↓Int.reduceLE, ↓Int.reduceEq, ↓Nat.reduceEqDiff, Nat.reduceBEq, ↓reduceIte, St.toRS, restrict, initEnv, plainArgs, reduceCtorEq, Nat.reduceEqDiff, Nat.reduceAdd, Nat.reduceMul, Int.reduceLT, Int.reduceLE, Int.reduceEq, Int.reduceNeg, Int.reduceAdd, Int.reduceToNat, Int.reduceNe, Nat.reduceSub, Int.reducePow, Int.reduceMul, vb0, vb1, vb2, vb3, vb4, vb5, vb6, vb7, f_ref4_number, hg, hx, rnumberL])
        by_cases hw : 0 < wl (t.drop (i + len))
        · rw [if_pos (Or.inr hw)]
          obtain ⟨c, hc, hcl⟩ := (wl_pos _ _).1 hw
          have hlt : i + len < t.length := (List.getElem?_eq_some_iff.1 hc).1
          have q1 := rletter_spec (m := m) c
          have q2 := rdigit_spec (m := m) c
          cases hlc : isLetter c.toNat with
          | true =>
            rw [hlc] at q1
            first | (exfalso; omega) | (simp -implicitDefEqProofs (maxSteps := 1000000) (disch := omega) only [↓Int.reduceLT, ↓Int.reduceLE, ↓Int.reduceEq, ↓Nat.reduceEqDiff, Nat.reduceBEq, ↓reduceIte, St.toRS, restrict, initEnv, plainArgs, reduceCtorEq, Nat.reduceEqDiff, Nat.reduceAdd, Nat.reduceMul, Int.reduceLT, Int.reduceLE, Int.reduceEq, Int.reduceNeg, Int.reduceAdd, Int.reduceToNat, Int.reduceNe, Nat.reduceSub, Int.reducePow, Int.reduceMul, vb0, vb1, vb2, vb3, vb4, vb5, vb6, vb7, f_ref4_number, hg, hx, rnumberL, hc, q1])
          | false =>
            rw [hlc] at q1 hcl
            have : isDigit c.toNat = true := by simpa using hcl
            rw [this] at q2
            first | (exfalso; omega) | (simp -implicitDefEqProofs (maxSteps := 1000000) (disch := omega) only [↓Int.reduceLT, ↓Int.reduceLE, ↓Int.reduceEq, ↓Nat.reduceEqDiff, Nat.reduceBEq, ↓reduceIte, St.toRS, restrict, initEnv, plainArgs, reduceCtorEq, Nat.reduceEqDiff, Nat.reduceAdd, Nat.reduceMul, Int.reduceLT, Int.reduceLE, Int.reduceEq, Int.reduceNeg, Int.reduceAdd, Int.reduceToNat, Int.reduceNe, Nat.reduceSub, Int.reducePow, Int.reduceMul, vb0, vb1, vb2, vb3, vb4, vb5, vb6, vb7, f_ref4_number, hg, hx, rnumberL, hc, q1, q2])
        · rw [if_neg (by omega)]
          by_cases hlt : i + len < t.length
          · have hc : t[i + len]? = some t[i + len] := by simp [hlt]
            have hno := mt (wl_pos t (i + len)).2 hw
            generalize t[i + len] = c at hc
            have q1 := rletter_spec (m := m) c
            have q2 := rdigit_spec (m := m) c
            have n1 : isLetter c.toNat = false := by cases h : isLetter c.toNat with | false => rfl | true => exact absurd ⟨c, hc, Or.inl h⟩ hno
            have n2 : isDigit c.toNat = false := by cases h : isDigit c.toNat with | false => rfl | true => exact absurd ⟨c, hc, Or.inr h⟩ hno
            rw [n1] at q1
            rw [n2] at q2
            cases o with
            | true => first | (exfalso; omega) | (simp -implicitDefEqProofs (maxSteps := 1000000) (disch := omega) only [↓Int.reduceLT, ↓Int.reduceLE, ↓Int.reduceEq, ↓Nat.reduceEqDiff, Nat.reduceBEq, ↓reduceIte, St.toRS, restrict, initEnv, plainArgs, reduceCtorEq, Nat.reduceEqDiff, Nat.reduceAdd, Nat.reduceMul, Int.reduceLT, Int.reduceLE, Int.reduceEq, Int.reduceNeg, Int.reduceAdd, Int.reduceToNat, Int.reduceNe, Nat.reduceSub, Int.reducePow, Int.reduceMul, vb0, vb1, vb2, vb3, vb4, vb5, vb6, vb7, f_ref4_number, hg, hx, rnumberL, hc, q1, q2, overI])
            | false => first | (exfalso; omega) | (simp -implicitDefEqProofs (maxSteps := 1000000) (disch := omega) only [↓Int.reduceLT, ↓Int.reduceLE, ↓Int.reduceEq, ↓Nat.reduceEqDiff, Nat.reduceBEq, ↓reduceIte, St.toRS, restrict, initEnv, plainArgs, reduceCtorEq, Nat.reduceEqDiff, Nat.reduceAdd, Nat.reduceMul, Int.reduceLT, Int.reduceLE, Int.reduceEq, Int.reduceNeg, Int.reduceAdd, Int.reduceToNat, Int.reduceNe, Nat.reduceSub, Int.reducePow, Int.reduceMul, vb0, vb1, vb2, vb3, vb4, vb5, vb6, vb7, f_ref4_number, hg, hx, rnumberL, hc, q1, q2, overI])
          · cases o with
            | true => first | (exfalso; omega) | (simp -implicitDefEqProofs (maxSteps := 1000000) (disch := omega) only [↓Int.reduceLT, ↓Int.reduceLE, ↓Int.reduceEq, ↓Nat.reduceEqDiff, Nat.reduceBEq, ↓reduceIte, St.toRS, restrict, initEnv, plainArgs, reduceCtorEq, Nat.reduceEqDiff, Nat.reduceAdd, Nat.reduceMul, Int.reduceLT, Int.reduceLE, Int.reduceEq, Int.reduceNeg, Int.reduceAdd, Int.reduceToNat, Int.reduceNe, Nat.reduceSub, Int.reducePow, Int.reduceMul, vb0, vb1, vb2, vb3, vb4, vb5, vb6, vb7, f_ref4_number, hg, hx, rnumberL, overI])
            | false => first | (exfalso; omega) | (simp -implicitDefEqProofs (maxSteps := 1000000) (disch := omega) only [↓Int.reduceLT, ↓Int.reduceLE, ↓Int.reduceEq, ↓Nat.reduceEqDiff, Nat.reduceBEq, ↓reduceIte, St.toRS, restrict, initEnv, plainArgs, reduceCtorEq, Nat.reduceEqDiff, Nat.reduceAdd, Nat.reduceMul, Int.reduceLT, Int.reduceLE, Int.reduceEq, Int.reduceNeg, Int.reduceAdd, Int.reduceToNat, Int.reduceNe, Nat.reduceSub, Int.reducePow, Int.reduceMul, vb0, vb1, vb2, vb3, vb4, vb5, vb6, vb7, f_ref4_number, hg, hx, rnumberL, overI])
    · generalize t[i] = c0v at hg c0
      by_cases hz : len = 0
      · rw [if_pos (Or.inl hz)]
        simp -implicitDefEqProofs (maxSteps := 1000000) (disch := omega) only [↓Int.reduceLT, ↓Int.reduceLE, ↓Int.reduceEq, ↓Nat.reduceEqDiff, Nat.reduceBEq, ↓reduceIte, St.toRS, restrict, initEnv, plainArgs, reduceCtorEq, Nat.reduceEqDiff, Nat.reduceAdd, Nat.reduceMul, Int.reduceLT, Int.reduceLE, Int.reduceEq, Int.reduceNeg, Int.reduceAdd, Int.reduceToNat, Int.reduceNe, Nat.reduceSub, Int.reducePow, Int.reduceMul, vb0, vb1, vb2, vb3, vb4, vb5, vb6, vb7, f_ref4_number, hg, hx, rnumberL]
      by_cases hw : 0 < wl (t.drop (i + len))
      · rw [if_pos (Or.inr hw)]
        obtain ⟨c, hc, hcl⟩ := (wl_pos _ _).1 hw
        have hlt : i + len < t.length := (List.getElem?_eq_some_iff.1 hc).1
        have q1 := rletter_spec (m := m) c
        have q2 := rdigit_spec (m := m) c
        cases hlc : isLetter c.toNat with
        | true =>
          rw [hlc] at q1
          simp -implicitDefEqProofs (maxSteps := 1000000) (disch := omega) only [↓Int.reduceLT, ↓Int.reduceLE, ↓Int.reduceEq, ↓Nat.reduceEqDiff, Nat.reduceBEq, ↓reduceIte, St.toRS, restrict, initEnv, plainArgs, reduceCtorEq, Nat.reduceEqDiff, Nat.reduceAdd, Nat.reduceMul, Int.reduceLT, Int.reduceLE, Int.reduceEq, Int.reduceNeg, Int.reduceAdd, Int.reduceToNat, Int.reduceNe, Nat.reduceSub, Int.reducePow, Int.reduceMul, vb0, vb1, vb2, vb3, vb4, vb5, vb6, vb7, f_ref4_number, hg, hx, rnumberL, hc, q1]
        | false =>
          rw [hlc] at q1 hcl
          have : isDigit c.toNat = true := by simpa using hcl
          rw [this] at q2
          simp -implicitDefEqProofs (maxSteps := 1000000) (disch := omega) only [↓Int.reduceLT, ↓Int.reduceLE, ↓Int.reduceEq, ↓Nat.reduceEqDiff, Nat.reduceBEq, ↓reduceIte, St.toRS, restrict, initEnv, plainArgs, reduceCtorEq, Nat.reduceEqDiff, Nat.reduceAdd, Nat.reduceMul, Int.reduceLT, Int.reduceLE, Int.reduceEq, Int.reduceNeg, Int.reduceAdd, Int.reduceToNat, Int.reduceNe, Nat.reduceSub, Int.reducePow, Int.reduceMul, vb0, vb1, vb2, vb3, vb4, vb5, vb6, vb7, f_ref4_number, hg, hx, rnumberL, hc, q1, q2]
      · rw [if_neg (by omega)]
        by_cases hlt : i + len < t.length
        · have hc : t[i + len]? = some t[i + len] := by simp [hlt]
          have hno := mt (wl_pos t (i + len)).2 hw
          generalize t[i + len] = c at hc
          have q1 := rletter_spec (m := m) c
          have q2 := rdigit_spec (m := m) c
          have n1 : isLetter c.toNat = false := by cases h : isLetter c.toNat with | false => rfl | true => exact absurd ⟨c, hc, Or.inl h⟩ hno
          have n2 : isDigit c.toNat = false := by cases h : isDigit c.toNat with | false => rfl | true => exact absurd ⟨c, hc, Or.inr h⟩ hno
          rw [n1] at q1
          rw [n2] at q2
          cases o with
          | true => simp -implicitDefEqProofs (maxSteps := 1000000) (disch := omega) only [↓Int.reduceLT, ↓Int.reduceLE, ↓Int.reduceEq, ↓Nat.reduceEqDiff, Nat.reduceBEq, ↓reduceIte, St.toRS, restrict, initEnv, plainArgs, reduceCtorEq, Nat.reduceEqDiff, Nat.reduceAdd, Nat.reduceMul, Int.reduceLT, Int.reduceLE, Int.reduceEq, Int.reduceNeg, Int.reduceAdd, Int.reduceToNat, Int.reduceNe, Nat.reduceSub, Int.reducePow, Int.reduceMul, vb0, vb1, vb2, vb3, vb4, vb5, vb6, vb7, f_ref4_number, hg, hx, rnumberL, hc, q1, q2, overI]
          | false => simp -implicitDefEqProofs (maxSteps := 1000000) (disch := omega) only [↓Int.reduceLT, ↓Int.reduceLE, ↓Int.reduceEq, ↓Nat.reduceEqDiff, Nat.reduceBEq, ↓reduceIte, St.toRS, restrict, initEnv, plainArgs, reduceCtorEq, Nat.reduceEqDiff, Nat.reduceAdd, Nat.reduceMul, Int.reduceLT, Int.reduceLE, Int.reduceEq, Int.reduceNeg, Int.reduceAdd, Int.reduceToNat, Int.reduceNe, Nat.reduceSub, Int.reducePow, Int.reduceMul, vb0, vb1, vb2, vb3, vb4, vb5, vb6, vb7, f_ref4_number, hg, hx, rnumberL, hc, q1, q2, overI]
        · cases o with
          | true => simp -implicitDefEqProofs (maxSteps := 1000000) (disch := omega) only [↓Int.reduceLT, ↓Int.reduceLE, ↓Int.reduceEq, ↓Nat.reduceEqDiff, Nat.reduceBEq, ↓reduceIte, St.toRS, restrict, initEnv, plainArgs, reduceCtorEq, Nat.reduceEqDiff, Nat.reduceAdd, Nat.reduceMul, Int.reduceLT, Int.reduceLE, Int.reduceEq, Int.reduceNeg, Int.reduceAdd, Int.reduceToNat, Int.reduceNe, Nat.reduceSub, Int.reducePow, Int.reduceMul, vb0, vb1, vb2, vb3, vb4, vb5, vb6, vb7, f_ref4_number, hg, hx, rnumberL, overI]
          | false => simp -implicitDefEqProofs (maxSteps := 1000000) (disch := omega) only [↓Int.reduceLT, ↓Int.reduceLE, ↓Int.reduceEq, ↓Nat.reduceEqDiff, Nat.reduceBEq, ↓reduceIte, St.toRS, restrict, initEnv, plainArgs, reduceCtorEq, Nat.reduceEqDiff, Nat.reduceAdd, Nat.reduceMul, Int.reduceLT, Int.reduceLE, Int.reduceEq, Int.reduceNeg, Int.reduceAdd, Int.reduceToNat, Int.reduceNe, Nat.reduceSub, Int.reducePow, Int.reduceMul, vb0, vb1, vb2, vb3, vb4, vb5, vb6, vb7, f_ref4_number, hg, hx, rnumberL, overI]
end Go.Proofs.Ytladdhfkmnhmfaa
