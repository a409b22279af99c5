/-
  What lex.quoted and the reference's quoted answer: over data.
-/
import Derived.Test.YtladdhfkmnhmfaaRunq2
set_option linter.unusedVariables false
set_option linter.unusedSimpArgs false
set_option maxRecDepth 100000
set_option maxHeartbeats 8000000
namespace Go.Proofs.Ytladdhfkmnhmfaa
open Go.Vi
variable {m : Int}

/-- How many bytes stand ahead of the mark that ends a quoted text; none: there is none. -/
def qsF : Nat → List UInt8 → Option Nat
  | _, [] => none
  | 0, _ :: _ => none
  | n + 1, c :: r => if c.toNat = 34 then some 0 else if c.toNat = 92 then (qsF n (r.drop 1)).map (· + 2) else (qsF n r).map (· + 1)
theorem qsF_same : ∀ (n k : Nat) (r : List UInt8), r.length ≤ n → r.length ≤ k → qsF n r = qsF k r := by
  intro n
  induction n with
  | zero => intro k r h _; obtain rfl : r = [] := List.eq_nil_of_length_eq_zero (by omega); cases k <;> rfl
  | succ n ih =>
    intro k r h hk
    cases r with
    | nil => cases k <;> rfl
    | cons c r =>
      cases k with
      | zero => simp at hk
      | succ k =>
        simp only [List.length_cons] at h hk
        simp only [qsF]
        rw [ih k r (by omega) (by omega), ih k (r.drop 1) (by simp; omega) (by simp; omega)]
def qs (r : List UInt8) : Option Nat := qsF r.length r
theorem qs_nil : qs [] = none := rfl
theorem qs_cons (c : UInt8) (r : List UInt8) : qs (c :: r) = if c.toNat = 34 then some 0 else if c.toNat = 92 then (qs (r.drop 1)).map (· + 2) else (qs r).map (· + 1) := by
  simp only [qs, List.length_cons, qsF]
  rw [qsF_same r.length (r.drop 1).length (r.drop 1) (by simp) (Nat.le_refl _)]
theorem qs_lt : ∀ (n : Nat) (r : List UInt8), r.length ≤ n → ∀ k, qs r = some k → k < r.length := by
  intro n
  induction n with
  | zero => intro r hr k h; obtain rfl : r = [] := List.eq_nil_of_length_eq_zero (by omega); simp [qs_nil] at h
  | succ n ih =>
    intro r hr k h
    cases r with
    | nil => simp [qs_nil] at h
    | cons c r =>
      simp only [List.length_cons] at hr ⊢
      rw [qs_cons] at h
      split at h
      · cases h; omega
      split at h
      · simp only [Option.map_eq_some_iff] at h
        obtain ⟨x, hx, rfl⟩ := h
        have := ih (r.drop 1) (by simp; omega) x hx
        simp only [List.length_drop] at this
        omega
      · simp only [Option.map_eq_some_iff] at h
        obtain ⟨x, hx, rfl⟩ := h
        have := ih r (by omega) x hx
        omega

def qd_st (s : List UInt8) (i : Nat) : St := { env := [(0, .d (.str s)), (4, .d (.int .i64 i))], bx := [] }
/-- Where the loop ends. -/
def qEnd (s : List UInt8) (i j : Nat) : Prop := match qs (s.drop i) with
  | some k => j = i + k ∧ j < s.length
  | none => s.length ≤ j ∧ j ≤ s.length + 1
theorem qd_loop (s : List UInt8) (hs : s.length ≤ 140737488355328) : ∀ (f i : Nat), i ≤ s.length + 1 → s.length + 1 - i ≤ f →
    ∃ j ex, qEnd s i j ∧ X (M m) (.loop l_lex_quoted_6) (qd_st s i) = some (.exit 0, { env := (0, .d (.str s)) :: (4, .d (.int .i64 (j : Nat))) :: ex, bx := [] }) := by
  intro f
  induction f with
  | zero =>
    intro i hi hf
    refine ⟨i, [(15, .d (.bool false))], ?_, loop_exit ?_ (by simp)⟩
    · simp only [qEnd, List.drop_eq_nil_of_le (show s.length ≤ i by omega), qs_nil]; omega
    · simp -implicitDefEqProofs (maxSteps := 1000000) (disch := omega) only [↓Int.reduceLT, ↓Int.reduceLE, ↓Int.reduceEq, ↓Nat.reduceEqDiff, Nat.reduceBEq, ↓reduceIte, St.toRS, restrict, initEnv, plainArgs, reduceCtorEq, Nat.reduceEqDiff, Nat.reduceAdd, Nat.reduceMul, Int.reduceLT, Int.reduceLE, Int.reduceEq, Int.reduceNeg, Int.reduceAdd, Int.reduceToNat, Int.reduceNe, Nat.reduceSub, Int.reducePow, Int.reduceMul, vb0, vb1, vb2, vb3, vb4, vb5, vb6, vb7, l_lex_quoted_6, qd_st]
  | succ f ih =>
    intro i hi hf
    rcases Nat.lt_or_ge i s.length with hlt | hge
    · have hg : s[i]? = some s[i] := by simp [hlt]
      have hd : s.drop i = s[i] :: s.drop (i + 1) := List.drop_eq_getElem_cons hlt
      simp only [qEnd, hd, qs_cons]
      generalize s[i] = c at hg
      have hc := c.toNat_lt
      by_cases h34 : c.toNat = 34
      · simp only [h34, if_true]
        refine ⟨i, [(15, .d (.bool false))], ⟨by omega, hlt⟩, loop_exit ?_ (by simp)⟩
        simp -implicitDefEqProofs (maxSteps := 1000000) (disch := omega) only [↓Int.reduceLT, ↓Int.reduceLE, ↓Int.reduceEq, ↓Nat.reduceEqDiff, Nat.reduceBEq, ↓reduceIte, St.toRS, restrict, initEnv, plainArgs, reduceCtorEq, Nat.reduceEqDiff, Nat.reduceAdd, Nat.reduceMul, Int.reduceLT, Int.reduceLE, Int.reduceEq, Int.reduceNeg, Int.reduceAdd, Int.reduceToNat, Int.reduceNe, Nat.reduceSub, Int.reducePow, Int.reduceMul, vb0, vb1, vb2, vb3, vb4, vb5, vb6, vb7, l_lex_quoted_6, qd_st, hg]
      by_cases h92 : c.toNat = 92
      · have hr : X (M m) l_lex_quoted_6 (qd_st s i) = some (.norm, qd_st s (i + 2)) := by
          simp -implicitDefEqProofs (maxSteps := 1000000) (disch := omega) only [↓Int.reduceLT, ↓Int.reduceLE, ↓Int.reduceEq, ↓Nat.reduceEqDiff, Nat.reduceBEq, ↓reduceIte, St.toRS, restrict, initEnv, plainArgs, reduceCtorEq, Nat.reduceEqDiff, Nat.reduceAdd, Nat.reduceMul, Int.reduceLT, Int.reduceLE, Int.reduceEq, Int.reduceNeg, Int.reduceAdd, Int.reduceToNat, Int.reduceNe, Nat.reduceSub, Int.reducePow, Int.reduceMul, vb0, vb1, vb2, vb3, vb4, vb5, vb6, vb7, l_lex_quoted_6, qd_st, hg, Nat.add_assoc]
        obtain ⟨j, ex, hj, hx⟩ := ih (i + 2) (by omega) (by omega)
        refine ⟨j, ex, ?_, by rw [X_loop, hr]; exact hx⟩
        simp only [qEnd] at hj
        rw [if_neg h34, if_pos h92]
        rw [List.drop_drop, show i + 1 + 1 = i + 2 by omega]
        cases hq : qs (s.drop (i + 2)) with
        | none => rw [hq] at hj; exact hj
        | some k => rw [hq] at hj; simp only [Option.map_some]; omega
      · have hr : X (M m) l_lex_quoted_6 (qd_st s i) = some (.norm, qd_st s (i + 1)) := by
          simp -implicitDefEqProofs (maxSteps := 1000000) (disch := omega) only [↓Int.reduceLT, ↓Int.reduceLE, ↓Int.reduceEq, ↓Nat.reduceEqDiff, Nat.reduceBEq, ↓reduceIte, St.toRS, restrict, initEnv, plainArgs, reduceCtorEq, Nat.reduceEqDiff, Nat.reduceAdd, Nat.reduceMul, Int.reduceLT, Int.reduceLE, Int.reduceEq, Int.reduceNeg, Int.reduceAdd, Int.reduceToNat, Int.reduceNe, Nat.reduceSub, Int.reducePow, Int.reduceMul, vb0, vb1, vb2, vb3, vb4, vb5, vb6, vb7, l_lex_quoted_6, qd_st, hg]
        obtain ⟨j, ex, hj, hx⟩ := ih (i + 1) (by omega) (by omega)
        refine ⟨j, ex, ?_, by rw [X_loop, hr]; exact hx⟩
        simp only [qEnd] at hj
        rw [if_neg h34, if_neg h92]
        cases hq : qs (s.drop (i + 1)) with
        | none => rw [hq] at hj; exact hj
        | some k => rw [hq] at hj; simp only [Option.map_some]; omega
    · refine ⟨i, [(15, .d (.bool false))], ?_, loop_exit ?_ (by simp)⟩
      · simp only [qEnd, List.drop_eq_nil_of_le hge, qs_nil]; omega
      · simp -implicitDefEqProofs (maxSteps := 1000000) (disch := omega) only [↓Int.reduceLT, ↓Int.reduceLE, ↓Int.reduceEq, ↓Nat.reduceEqDiff, Nat.reduceBEq, ↓reduceIte, St.toRS, restrict, initEnv, plainArgs, reduceCtorEq, Nat.reduceEqDiff, Nat.reduceAdd, Nat.reduceMul, Int.reduceLT, Int.reduceLE, Int.reduceEq, Int.reduceNeg, Int.reduceAdd, Int.reduceToNat, Int.reduceNe, Nat.reduceSub, Int.reducePow, Int.reduceMul, vb0, vb1, vb2, vb3, vb4, vb5, vb6, vb7, l_lex_quoted_6, qd_st]

theorem unqF_length (t bs : List UInt8) (e : Int) (h : unquoteL t = (bs, e)) : bs.length ≤ t.length := by
  simp only [unquoteL] at h
  split at h
  · cases h; simp
  split at h
  · cases h; simp
  split at h
  · cases h; simp
  · rename_i b hb
    cases h
    have := unqF_le _ _ _ hb
    simp at this; omega

/-- A quoted text's form: how long it is (0: none), its bytes. -/
def quotedL (s : List UInt8) : Nat × List UInt8 := match qs (s.drop 1) with
  | none => (0, [])
  | some k => if (unquoteL (s.take (k + 2))).2 = 0 then (k + 2, (unquoteL (s.take (k + 2))).1) else (0, [])
theorem quoted_spec (s : List UInt8) (hs : s.length ≤ 140737488355328) (h1 : 1 ≤ s.length) : C (M m) 19 [.d (.str s)] = some (.tup [.int .i64 (quotedL s).1, .slice 1 (bytesD (quotedL s).2)]) := by
  rw [c_fn (sf := f_lex_quoted) rfl rfl ⟨rfl, rfl⟩]
  obtain ⟨j, ex, hj, hx⟩ := qd_loop (m := m) s hs (s.length + 1) 1 (by omega) (by omega)
  simp only [qd_st, Int.cast_ofNat_Int] at hx
  simp only [qEnd] at hj
  cases hq : qs (s.drop 1) with
  | none =>
    rw [hq] at hj
    simp -implicitDefEqProofs (maxSteps := 1000000) (disch := omega) only [↓Int.reduceLT, ↓Int.reduceLE, ↓Int.reduceEq, ↓Nat.reduceEqDiff, Nat.reduceBEq, ↓reduceIte, St.toRS, restrict, initEnv, plainArgs, reduceCtorEq, Nat.reduceEqDiff, Nat.reduceAdd, Nat.reduceMul, Int.reduceLT, Int.reduceLE, Int.reduceEq, Int.reduceNeg, Int.reduceAdd, Int.reduceToNat, Int.reduceNe, Nat.reduceSub, Int.reducePow, Int.reduceMul, vb0, vb1, vb2, vb3, vb4, vb5, vb6, vb7, f_lex_quoted, hx, quotedL, hq, bytesD_nil]
  | some k =>
    rw [hq] at hj
    obtain ⟨rfl, hjl⟩ := hj
    have hu := unquote_spec (m := m) (s.take (k + 2)) (by simp; omega)
    simp only [n_quote_Unquote] at hu
    have e1 : 1 + k + 1 = k + 2 := by omega
    by_cases he : (unquoteL (s.take (k + 2))).2 = 0
    · rw [he] at hu
      simp -implicitDefEqProofs (maxSteps := 1000000) (disch := omega) only [↓Int.reduceLT, ↓Int.reduceLE, ↓Int.reduceEq, ↓Nat.reduceEqDiff, Nat.reduceBEq, ↓reduceIte, St.toRS, restrict, initEnv, plainArgs, reduceCtorEq, Nat.reduceEqDiff, Nat.reduceAdd, Nat.reduceMul, Int.reduceLT, Int.reduceLE, Int.reduceEq, Int.reduceNeg, Int.reduceAdd, Int.reduceToNat, Int.reduceNe, Nat.reduceSub, Int.reducePow, Int.reduceMul, vb0, vb1, vb2, vb3, vb4, vb5, vb6, vb7, f_lex_quoted, hx, quotedL, hq, bytesD_nil, e1, hu, List.drop_zero, List.getElem?_cons_zero, List.getElem?_cons_succ, he]
    · simp -implicitDefEqProofs (maxSteps := 1000000) (disch := omega) only [↓Int.reduceLT, ↓Int.reduceLE, ↓Int.reduceEq, ↓Nat.reduceEqDiff, Nat.reduceBEq, ↓reduceIte, St.toRS, restrict, initEnv, plainArgs, reduceCtorEq, Nat.reduceEqDiff, Nat.reduceAdd, Nat.reduceMul, Int.reduceLT, Int.reduceLE, Int.reduceEq, Int.reduceNeg, Int.reduceAdd, Int.reduceToNat, Int.reduceNe, Nat.reduceSub, Int.reducePow, Int.reduceMul, vb0, vb1, vb2, vb3, vb4, vb5, vb6, vb7, f_lex_quoted, hx, quotedL, hq, bytesD_nil, e1, hu, List.drop_zero, List.getElem?_cons_zero, List.getElem?_cons_succ, he]

/-! ### The reference -/
def rq_st (s : List UInt8) (i : Nat) : St := { env := [(0, .d (.str s)), (6, .d (.int .i64 i))], bx := [] }
theorem rq_loop (s : List UInt8) (hs : s.length ≤ 140737488355328) : ∀ (f i : Nat), i ≤ s.length + 1 → s.length + 1 - i ≤ f →
    match qs (s.drop i) with
    | some k => X (M m) (.loop l_ref4_quoted_1) (rq_st s i) = some (.ret, { env := [(4, .d (.int .i64 (i + k + 1 : Nat))), (5, .d (.bool true))], bx := [] })
    | none => ∃ st, X (M m) (.loop l_ref4_quoted_1) (rq_st s i) = some (.exit 0, st) := by
  intro f
  induction f with
  | zero =>
    intro i hi hf
    rw [List.drop_eq_nil_of_le (show s.length ≤ i by omega)]
    refine ⟨{ env := [(0, .d (.str s)), (6, .d (.int .i64 i)), (12, .d (.bool false))], bx := [] }, loop_exit ?_ (by simp)⟩
    simp -implicitDefEqProofs (maxSteps := 1000000) (disch := omega) only [↓Int.reduceLT, ↓Int.reduceLE, ↓Int.reduceEq, ↓Nat.reduceEqDiff, Nat.reduceBEq, ↓reduceIte, St.toRS, restrict, initEnv, plainArgs, reduceCtorEq, Nat.reduceEqDiff, Nat.reduceAdd, Nat.reduceMul, Int.reduceLT, Int.reduceLE, Int.reduceEq, Int.reduceNeg, Int.reduceAdd, Int.reduceToNat, Int.reduceNe, Nat.reduceSub, Int.reducePow, Int.reduceMul, vb0, vb1, vb2, vb3, vb4, vb5, vb6, vb7, l_ref4_quoted_1, rq_st]
  | succ f ih =>
    intro i hi hf
    rcases Nat.lt_or_ge i s.length with hlt | hge
    · have hg : s[i]? = some s[i] := by simp [hlt]
      have hd : s.drop i = s[i] :: s.drop (i + 1) := List.drop_eq_getElem_cons hlt
      simp only [hd, qs_cons]
      generalize s[i] = c at hg
      have hc := c.toNat_lt
      by_cases h34 : c.toNat = 34
      · simp only [h34, if_true]
        refine loop_exit ?_ (by simp)
        simp -implicitDefEqProofs (maxSteps := 1000000) (disch := omega) only [↓Int.reduceLT, ↓Int.reduceLE, ↓Int.reduceEq, ↓Nat.reduceEqDiff, Nat.reduceBEq, ↓reduceIte, St.toRS, restrict, initEnv, plainArgs, reduceCtorEq, Nat.reduceEqDiff, Nat.reduceAdd, Nat.reduceMul, Int.reduceLT, Int.reduceLE, Int.reduceEq, Int.reduceNeg, Int.reduceAdd, Int.reduceToNat, Int.reduceNe, Nat.reduceSub, Int.reducePow, Int.reduceMul, vb0, vb1, vb2, vb3, vb4, vb5, vb6, vb7, l_ref4_quoted_1, rq_st, hg, Nat.add_zero]
      by_cases h92 : c.toNat = 92
      · have hr : X (M m) l_ref4_quoted_1 (rq_st s i) = some (.norm, rq_st s (i + 2)) := by
          simp -implicitDefEqProofs (maxSteps := 1000000) (disch := omega) only [↓Int.reduceLT, ↓Int.reduceLE, ↓Int.reduceEq, ↓Nat.reduceEqDiff, Nat.reduceBEq, ↓reduceIte, St.toRS, restrict, initEnv, plainArgs, reduceCtorEq, Nat.reduceEqDiff, Nat.reduceAdd, Nat.reduceMul, Int.reduceLT, Int.reduceLE, Int.reduceEq, Int.reduceNeg, Int.reduceAdd, Int.reduceToNat, Int.reduceNe, Nat.reduceSub, Int.reducePow, Int.reduceMul, vb0, vb1, vb2, vb3, vb4, vb5, vb6, vb7, l_ref4_quoted_1, rq_st, hg, Nat.add_assoc]
        have := ih (i + 2) (by omega) (by omega)
        rw [if_neg h34, if_pos h92]
        rw [List.drop_drop, show i + 1 + 1 = i + 2 by omega]
        cases hq : qs (s.drop (i + 2)) with
        | none => rw [hq] at this; simp only [Option.map_none]; rw [X_loop, hr]; exact this
        | some k => rw [hq] at this; simp only [Option.map_some]; rw [X_loop, hr, show i + (k + 2) + 1 = i + 2 + k + 1 by omega]; exact this
      · have hr : X (M m) l_ref4_quoted_1 (rq_st s i) = some (.norm, rq_st s (i + 1)) := by
          simp -implicitDefEqProofs (maxSteps := 1000000) (disch := omega) only [↓Int.reduceLT, ↓Int.reduceLE, ↓Int.reduceEq, ↓Nat.reduceEqDiff, Nat.reduceBEq, ↓reduceIte, St.toRS, restrict, initEnv, plainArgs, reduceCtorEq, Nat.reduceEqDiff, Nat.reduceAdd, Nat.reduceMul, Int.reduceLT, Int.reduceLE, Int.reduceEq, Int.reduceNeg, Int.reduceAdd, Int.reduceToNat, Int.reduceNe, Nat.reduceSub, Int.reducePow, Int.reduceMul, vb0, vb1, vb2, vb3, vb4, vb5, vb6, vb7, l_ref4_quoted_1, rq_st, hg]
        have := ih (i + 1) (by omega) (by omega)
        rw [if_neg h34, if_neg h92]
        cases hq : qs (s.drop (i + 1)) with
        | none => rw [hq] at this; simp only [Option.map_none]; rw [X_loop, hr]; exact this
        | some k => rw [hq] at this; simp only [Option.map_some]; rw [X_loop, hr, show i + (k + 1) + 1 = i + 1 + k + 1 by omega]; exact this
    · rw [List.drop_eq_nil_of_le hge]
      refine ⟨{ env := [(0, .d (.str s)), (6, .d (.int .i64 i)), (12, .d (.bool false))], bx := [] }, loop_exit ?_ (by simp)⟩
      simp -implicitDefEqProofs (maxSteps := 1000000) (disch := omega) only [↓Int.reduceLT, ↓Int.reduceLE, ↓Int.reduceEq, ↓Nat.reduceEqDiff, Nat.reduceBEq, ↓reduceIte, St.toRS, restrict, initEnv, plainArgs, reduceCtorEq, Nat.reduceEqDiff, Nat.reduceAdd, Nat.reduceMul, Int.reduceLT, Int.reduceLE, Int.reduceEq, Int.reduceNeg, Int.reduceAdd, Int.reduceToNat, Int.reduceNe, Nat.reduceSub, Int.reducePow, Int.reduceMul, vb0, vb1, vb2, vb3, vb4, vb5, vb6, vb7, l_ref4_quoted_1, rq_st]
def rquotedL (t : List UInt8) (i : Nat) : Int × Bool := match qs (t.drop (i + 1)) with
  | none => (0, false)
  | some k => ((i + k + 2 : Nat), true)
theorem rquoted_spec (t : List UInt8) (i : Nat) (hs : t.length ≤ 140737488355328) (hi : i < t.length) : C (M m) 26 [.d (.str t), .d (.int .i64 i)] = some (.tup [.int .i64 (rquotedL t i).1, .bool (rquotedL t i).2]) := by
  rw [c_fn (sf := f_ref4_quoted) rfl rfl ⟨rfl, rfl⟩]
  have hl := rq_loop (m := m) t hs (t.length + 1) (i + 1) (by omega) (by omega)
  simp only [rquotedL]
  cases hq : qs (t.drop (i + 1)) with
  | none =>
    rw [hq] at hl
    obtain ⟨st, hx⟩ := hl
    simp only [rq_st] at hx
    simp -implicitDefEqProofs (maxSteps := 1000000) (disch := omega) only [↓Int.reduceLT, ↓Int.reduceLE, ↓Int.reduceEq, ↓Nat.reduceEqDiff, Nat.reduceBEq, ↓reduceIte, St.toRS, restrict, initEnv, plainArgs, reduceCtorEq, Nat.reduceEqDiff, Nat.reduceAdd, Nat.reduceMul, Int.reduceLT, Int.reduceLE, Int.reduceEq, Int.reduceNeg, Int.reduceAdd, Int.reduceToNat, Int.reduceNe, Nat.reduceSub, Int.reducePow, Int.reduceMul, vb0, vb1, vb2, vb3, vb4, vb5, vb6, vb7, f_ref4_quoted, hx]
  | some k =>
    rw [hq] at hl
    simp only [rq_st] at hl
    have e : i + 1 + k + 1 = i + k + 2 := by omega
    simp -implicitDefEqProofs (maxSteps := 1000000) (disch := omega) only [↓Int.reduceLT, ↓Int.reduceLE, ↓Int.reduceEq, ↓Nat.reduceEqDiff, Nat.reduceBEq, ↓reduceIte, St.toRS, restrict, initEnv, plainArgs, reduceCtorEq, Nat.reduceEqDiff, Nat.reduceAdd, Nat.reduceMul, Int.reduceLT, Int.reduceLE, Int.reduceEq, Int.reduceNeg, Int.reduceAdd, Int.reduceToNat, Int.reduceNe, Nat.reduceSub, Int.reducePow, Int.reduceMul, vb0, vb1, vb2, vb3, vb4, vb5, vb6, vb7, f_ref4_quoted, hl, e]
end Go.Proofs.Ytladdhfkmnhmfaa
