/-
  lex.Split over data: one word, one blank, one comment.
-/
import Derived.Test.YtladdhfkmnhmfaaTok
import Derived.Test.YtladdhfkmnhmfaaPieces
set_option linter.unusedVariables false
set_option linter.unusedSimpArgs false
set_option maxRecDepth 100000
set_option maxHeartbeats 8000000
namespace Go.Proofs.Ytladdhfkmnhmfaa
open Go.Vi
variable {m : Int}

theorem jump0 {st : St} : jumpIn (M m) b_lex_Split_49 (some (.goto 0, st)) = X (M m) (.scope b_lex_Split_49 (.seq .skip sp_t7)) st := rfl
theorem jump1 {st : St} : jumpIn (M m) b_lex_Split_49 (some (.goto 1, st)) = X (M m) (.scope b_lex_Split_49 (.seq .skip sp_t22)) st := rfl
theorem jump2 {st : St} : jumpIn (M m) b_lex_Split_49 (some (.goto 2, st)) = X (M m) (.scope b_lex_Split_49 (.seq .skip sp_t16)) st := rfl
theorem jump3 {st : St} : jumpIn (M m) b_lex_Split_49 (some (.goto 3, st)) = X (M m) (.scope b_lex_Split_49 (.seq .skip sp_t20)) st := rfl
theorem jumpR {st : St} : jumpIn (M m) b_lex_Split_49 (some (.ret, st)) = some (.ret, st) := rfl

def z4 : List D := [.int .i64 0, .int .i64 0, .int .i64 0, .int .i64 0]
def sp_st (t : List UInt8) (line first at_ : Nat) (out cs : List D) (ex : List (Nat × V)) : St :=
  { env := (0, .d (.str t)) :: (3, .lref 3 0) :: (3, .lref 3 0) :: (4, .own 6 out) :: (5, .d (.int .i64 line)) :: (6, .d (.int .i64 first)) :: (7, .d (.int .i64 at_)) :: (9, .lref 9 0) :: (9, .lref 9 0) :: (10, .d (.int .i64 11)) :: ex,
    bx := [(3, [.int .i64 0, .int .i64 0, .int .i64 0, .int .i64 0]), (3, [.int .i64 0, .int .i64 0, .int .i64 0, .int .i64 0]), (9, cs), (9, cs)] }
/-- The end. -/
def sp_ret (ws : List D) (e l c : Int) : Option (Ex × St) :=
  some (.ret, { env := [(2, .own 6 ws), (3, .lref 3 0), (3, .lref 3 0)], bx := [(3, [.int .i64 e, .int .i64 0, .int .i64 l, .int .i64 c]), (3, [.int .i64 e, .int .i64 0, .int .i64 l, .int .i64 c])] })

theorem set6 {cs : List D} (h : cs.length = 6) (a b c d e f : D) : setAt cs 0 [a, b, c, d, e, f] = [a, b, c, d, e, f] := by
  match cs, h with
  | [_, _, _, _, _, _], _ => rfl

theorem sp_done (t : List UInt8) (line first : Nat) (out cs : List D) (ex : List (Nat × V)) (ht : t.length ≤ 65536) (hf : first ≤ t.length) (hl : line ≤ 65537) (ho : out.length ≤ 65536) (hc : cs.length = 6) :
    X (M m) (.scope b_lex_Split_49 (.seq .skip sp_t7)) (sp_st t line first t.length out cs ex) = sp_ret (out ++ [wdD ⟨5, [], 0, 0, [], line, t.length - first + 1⟩]) 0 0 0 := by
  have hset := set6 hc
  rw [X_scope]
  simp -implicitDefEqProofs (maxSteps := 1000000) (disch := omega) only [↓Int.reduceLT, ↓Int.reduceLE, ↓Int.reduceEq, ↓Nat.reduceEqDiff, Nat.reduceBEq, ↓reduceIte, St.toRS, restrict, initEnv, plainArgs, reduceCtorEq, Nat.reduceEqDiff, Nat.reduceAdd, Nat.reduceMul, Int.reduceLT, Int.reduceLE, Int.reduceEq, Int.reduceNeg, Int.reduceAdd, Int.reduceToNat, Int.reduceNe, Nat.reduceSub, Int.reducePow, Int.reduceMul, vb0, vb1, vb2, vb3, vb4, vb5, vb6, vb7, sp_t7, sp_p7, sp_t8, sp_p8, sp_st, jump1, fill, setAt, hset, hc, List.set_cons_succ, List.set_cons_zero]
  rw [X_scope]
  simp -implicitDefEqProofs (maxSteps := 1000000) (disch := omega) only [↓Int.reduceLT, ↓Int.reduceLE, ↓Int.reduceEq, ↓Nat.reduceEqDiff, Nat.reduceBEq, ↓reduceIte, St.toRS, restrict, initEnv, plainArgs, reduceCtorEq, Nat.reduceEqDiff, Nat.reduceAdd, Nat.reduceMul, Int.reduceLT, Int.reduceLE, Int.reduceEq, Int.reduceNeg, Int.reduceAdd, Int.reduceToNat, Int.reduceNe, Nat.reduceSub, Int.reducePow, Int.reduceMul, vb0, vb1, vb2, vb3, vb4, vb5, vb6, vb7, sp_t22, sp_p22, sp_t23, sp_p23, sp_t24, sp_p24, jumpR, fill, setAt, hset, hc, List.set_cons_succ, List.set_cons_zero, sub, List.getElem?_cons_zero, List.getElem?_cons_succ, List.drop_zero, List.take_succ_cons, List.take_zero, sp_ret, wdD, bytesD_nil]
theorem sp_nl (t : List UInt8) (line first i : Nat) (out cs : List D) (ex : List (Nat × V)) (ht : t.length ≤ 65536) (hf : first ≤ i) (hi : i < t.length) (hl : line ≤ 65537) (ho : out.length ≤ 65536) (hc : cs.length = 6) (c : UInt8) (hg : t[i]? = some c) (h : c.toNat = 10) :
    ∃ cs' ex', cs'.length = 6 ∧ X (M m) (.scope b_lex_Split_49 (.seq .skip sp_t7)) (sp_st t line first i out cs ex) = X (M m) (.scope b_lex_Split_49 (.seq .skip sp_t7)) (sp_st t (line + 1) (i + 1) (i + 1) (out) cs' ex') := by
  have hset := set6 hc
  refine ⟨[.int .i64 0, .str [], .int .u64 0, .slice 0 [], .int .i64 line, .int .i64 (i - first + 1 : Nat)], [], rfl, ?_⟩
  rw [X_scope]
  simp -implicitDefEqProofs (maxSteps := 1000000) (disch := omega) only [↓Int.reduceLT, ↓Int.reduceLE, ↓Int.reduceEq, ↓Nat.reduceEqDiff, Nat.reduceBEq, ↓reduceIte, St.toRS, restrict, initEnv, plainArgs, reduceCtorEq, Nat.reduceEqDiff, Nat.reduceAdd, Nat.reduceMul, Int.reduceLT, Int.reduceLE, Int.reduceEq, Int.reduceNeg, Int.reduceAdd, Int.reduceToNat, Int.reduceNe, Nat.reduceSub, Int.reducePow, Int.reduceMul, vb0, vb1, vb2, vb3, vb4, vb5, vb6, vb7, sp_t7, sp_p7, sp_t8, sp_p8, sp_t9, sp_p9, sp_t10, sp_p10, sp_t11, sp_p11, sp_t12, sp_p12, sp_t13, sp_p13, sp_t14, sp_p14, sp_st, jump0, jump1, jump2, jump3, fill, setAt, hset, hc, List.set_cons_succ, List.set_cons_zero, sub, List.getElem?_cons_zero, List.getElem?_cons_succ, List.drop_zero, List.take_succ_cons, List.take_zero, List.take_length, hg]
theorem sp_ws (t : List UInt8) (line first i : Nat) (out cs : List D) (ex : List (Nat × V)) (ht : t.length ≤ 65536) (hf : first ≤ i) (hi : i < t.length) (hl : line ≤ 65537) (ho : out.length ≤ 65536) (hc : cs.length = 6) (c : UInt8) (hg : t[i]? = some c) (h : c.toNat = 32 ∨ c.toNat = 9 ∨ c.toNat = 13) :
    ∃ cs' ex', cs'.length = 6 ∧ X (M m) (.scope b_lex_Split_49 (.seq .skip sp_t7)) (sp_st t line first i out cs ex) = X (M m) (.scope b_lex_Split_49 (.seq .skip sp_t7)) (sp_st t (line) (first) (i + 1) (out) cs' ex') := by
  have hset := set6 hc
  refine ⟨[.int .i64 0, .str [], .int .u64 0, .slice 0 [], .int .i64 line, .int .i64 (i - first + 1 : Nat)], [], rfl, ?_⟩
  rw [X_scope]
  rcases h with h | h | h
  · simp -implicitDefEqProofs (maxSteps := 1000000) (disch := omega) only [↓Int.reduceLT, ↓Int.reduceLE, ↓Int.reduceEq, ↓Nat.reduceEqDiff, Nat.reduceBEq, ↓reduceIte, St.toRS, restrict, initEnv, plainArgs, reduceCtorEq, Nat.reduceEqDiff, Nat.reduceAdd, Nat.reduceMul, Int.reduceLT, Int.reduceLE, Int.reduceEq, Int.reduceNeg, Int.reduceAdd, Int.reduceToNat, Int.reduceNe, Nat.reduceSub, Int.reducePow, Int.reduceMul, vb0, vb1, vb2, vb3, vb4, vb5, vb6, vb7, sp_t7, sp_p7, sp_t8, sp_p8, sp_t9, sp_p9, sp_t10, sp_p10, sp_t11, sp_p11, sp_t12, sp_p12, sp_t13, sp_p13, sp_t14, sp_p14, sp_st, jump0, jump1, jump2, jump3, fill, setAt, hset, hc, List.set_cons_succ, List.set_cons_zero, sub, List.getElem?_cons_zero, List.getElem?_cons_succ, List.drop_zero, List.take_succ_cons, List.take_zero, List.take_length, hg]
  · simp -implicitDefEqProofs (maxSteps := 1000000) (disch := omega) only [↓Int.reduceLT, ↓Int.reduceLE, ↓Int.reduceEq, ↓Nat.reduceEqDiff, Nat.reduceBEq, ↓reduceIte, St.toRS, restrict, initEnv, plainArgs, reduceCtorEq, Nat.reduceEqDiff, Nat.reduceAdd, Nat.reduceMul, Int.reduceLT, Int.reduceLE, Int.reduceEq, Int.reduceNeg, Int.reduceAdd, Int.reduceToNat, Int.reduceNe, Nat.reduceSub, Int.reducePow, Int.reduceMul, vb0, vb1, vb2, vb3, vb4, vb5, vb6, vb7, sp_t7, sp_p7, sp_t8, sp_p8, sp_t9, sp_p9, sp_t10, sp_p10, sp_t11, sp_p11, sp_t12, sp_p12, sp_t13, sp_p13, sp_t14, sp_p14, sp_st, jump0, jump1, jump2, jump3, fill, setAt, hset, hc, List.set_cons_succ, List.set_cons_zero, sub, List.getElem?_cons_zero, List.getElem?_cons_succ, List.drop_zero, List.take_succ_cons, List.take_zero, List.take_length, hg]
  · simp -implicitDefEqProofs (maxSteps := 1000000) (disch := omega) only [↓Int.reduceLT, ↓Int.reduceLE, ↓Int.reduceEq, ↓Nat.reduceEqDiff, Nat.reduceBEq, ↓reduceIte, St.toRS, restrict, initEnv, plainArgs, reduceCtorEq, Nat.reduceEqDiff, Nat.reduceAdd, Nat.reduceMul, Int.reduceLT, Int.reduceLE, Int.reduceEq, Int.reduceNeg, Int.reduceAdd, Int.reduceToNat, Int.reduceNe, Nat.reduceSub, Int.reducePow, Int.reduceMul, vb0, vb1, vb2, vb3, vb4, vb5, vb6, vb7, sp_t7, sp_p7, sp_t8, sp_p8, sp_t9, sp_p9, sp_t10, sp_p10, sp_t11, sp_p11, sp_t12, sp_p12, sp_t13, sp_p13, sp_t14, sp_p14, sp_st, jump0, jump1, jump2, jump3, fill, setAt, hset, hc, List.set_cons_succ, List.set_cons_zero, sub, List.getElem?_cons_zero, List.getElem?_cons_succ, List.drop_zero, List.take_succ_cons, List.take_zero, List.take_length, hg]
theorem twoB (t : List UInt8) (i : Nat) (c : UInt8) (hi : i < t.length) (hg : t[i]? = some c) (x y : UInt8) (h : (t.drop i).take 2 = [x, y]) : c = x ∧ i + 2 ≤ t.length := by
  have h2 := congrArg List.length h
  simp at h2
  have : (t.drop i)[0]? = some x := by
    have := congrArg (fun l => l[0]?) h
    simpa using this
  simp only [List.getElem?_drop, Nat.add_zero, hg, Option.some.injEq] at this
  exact ⟨this, by omega⟩
theorem sp_line (t : List UInt8) (line first i : Nat) (out cs : List D) (ex : List (Nat × V)) (ht : t.length ≤ 65536) (hf : first ≤ i) (hi : i < t.length) (hl : line ≤ 65537) (ho : out.length ≤ 65536) (hc : cs.length = 6) (c : UInt8) (hg : t[i]? = some c) (h : (t.drop i).take 2 = [47, 47]) :
    ∃ cs' ex', cs'.length = 6 ∧ X (M m) (.scope b_lex_Split_49 (.seq .skip sp_t7)) (sp_st t line first i out cs ex) = X (M m) (.scope b_lex_Split_49 (.seq .skip sp_t7)) (sp_st t (line) (first) (i + lnE (t.drop i)) (out) cs' ex') := by
  have hset := set6 hc
  obtain ⟨rfl, h2⟩ := twoB t i c hi hg 47 47 h
  have q1 := has_spec (m := m) (t.drop i) [47, 47] (by simp; omega) (by decide)
  simp only [List.length_cons, List.length_nil, Nat.zero_add, Nat.reduceAdd, h, decide_true] at q1
  have q2 : C (M m) 14 [.d (.str (t.drop i)), .d (.int .u8 10)] = some (.d (.int .i64 (Go.Lib.indexByte (t.drop i) 10))) := ib_spec _ 10
  have c47 : ((UInt8.toNat 47 : Nat) : Int) = 47 := rfl
  have hx := ln_index (t.drop i)
  have hle := lnE_le (t.drop i)
  have hge := Go.Lib.indexByte_ge (t.drop i) 10
  generalize hn : Go.Lib.indexByte (t.drop i) 10 = x at *
  generalize hk : lnE (t.drop i) = k at *
  simp only [List.length_drop] at hx hle
  refine ⟨[.int .i64 0, .str [], .int .u64 0, .slice 0 [], .int .i64 line, .int .i64 (i - first + 1 : Nat)], [], rfl, ?_⟩
  rw [X_scope]
  split at hx
  · have e : i + (t.length - i) = i + k := by omega
    simp -implicitDefEqProofs (maxSteps := 1000000) (disch := omega) only [↓Int.reduceLT, ↓Int.reduceLE, ↓Int.reduceEq, ↓Nat.reduceEqDiff, Nat.reduceBEq, ↓reduceIte, St.toRS, restrict, initEnv, plainArgs, reduceCtorEq, Nat.reduceEqDiff, Nat.reduceAdd, Nat.reduceMul, Int.reduceLT, Int.reduceLE, Int.reduceEq, Int.reduceNeg, Int.reduceAdd, Int.reduceToNat, Int.reduceNe, Nat.reduceSub, Int.reducePow, Int.reduceMul, vb0, vb1, vb2, vb3, vb4, vb5, vb6, vb7, sp_t7, sp_p7, sp_t8, sp_p8, sp_t9, sp_p9, sp_t10, sp_p10, sp_t11, sp_p11, sp_t12, sp_p12, sp_t13, sp_p13, sp_t14, sp_p14, sp_st, jump0, jump1, jump2, jump3, fill, setAt, hset, hc, List.set_cons_succ, List.set_cons_zero, sub, List.getElem?_cons_zero, List.getElem?_cons_succ, List.drop_zero, List.take_succ_cons, List.take_zero, List.take_length, hg, q1, q2, c47, e]
  · subst hx
    simp -implicitDefEqProofs (maxSteps := 1000000) (disch := omega) only [↓Int.reduceLT, ↓Int.reduceLE, ↓Int.reduceEq, ↓Nat.reduceEqDiff, Nat.reduceBEq, ↓reduceIte, St.toRS, restrict, initEnv, plainArgs, reduceCtorEq, Nat.reduceEqDiff, Nat.reduceAdd, Nat.reduceMul, Int.reduceLT, Int.reduceLE, Int.reduceEq, Int.reduceNeg, Int.reduceAdd, Int.reduceToNat, Int.reduceNe, Nat.reduceSub, Int.reducePow, Int.reduceMul, vb0, vb1, vb2, vb3, vb4, vb5, vb6, vb7, sp_t7, sp_p7, sp_t8, sp_p8, sp_t9, sp_p9, sp_t10, sp_p10, sp_t11, sp_p11, sp_t12, sp_p12, sp_t13, sp_p13, sp_t14, sp_p14, sp_st, jump0, jump1, jump2, jump3, fill, setAt, hset, hc, List.set_cons_succ, List.set_cons_zero, sub, List.getElem?_cons_zero, List.getElem?_cons_succ, List.drop_zero, List.take_succ_cons, List.take_zero, List.take_length, hg, q1, q2, c47]

/-- The lines and their first places, k bytes on. -/
def posF (t : List UInt8) (line first i : Nat) : Nat → Nat × Nat
  | 0 => (line, first)
  | k + 1 => if (t[i + k]?.getD 0).toNat = 10 then ((posF t line first i k).1 + 1, i + k + 1) else posF t line first i k
theorem posF_le (t : List UInt8) (line first i : Nat) (hf : first ≤ i) : ∀ k, (posF t line first i k).1 ≤ line + k ∧ (posF t line first i k).2 ≤ i + k
  | 0 => ⟨by simp [posF], by simp [posF]; omega⟩
  | k + 1 => by
    have := posF_le t line first i hf k
    simp only [posF]
    split
    · simp only; omega
    · omega
theorem posF_adv (t : List UInt8) (line first i : Nat) (hf : first ≤ i) : ∀ k, i + k ≤ t.length → adv ((t.drop i).take k) (line, i - first + 1) = ((posF t line first i k).1, i + k - (posF t line first i k).2 + 1)
  | 0, _ => by simp [adv, posF]
  | k + 1, h => by
    have ih := posF_adv t line first i hf k (by omega)
    have hle := posF_le t line first i hf k
    have hg : (t.drop i)[k]? = some t[i + k] := by rw [List.getElem?_drop]; simp [show i + k < t.length by omega]
    have hg' : t[i + k]? = some t[i + k] := by simp [show i + k < t.length by omega]
    rw [List.take_add_one, hg, Option.toList_some, adv_append, ih]
    simp only [posF, hg', Option.getD_some, adv, List.foldl_cons, List.foldl_nil]
    split
    · simp only [Prod.mk.injEq, true_and]; omega
    · simp only [Prod.mk.injEq, true_and]; omega
def cm_st (t : List UInt8) (q : Nat × Nat) (i : Nat) (out cs : List D) (lim j : Nat) : St :=
  { env := [(0, .d (.str t)), (3, .lref 3 0), (3, .lref 3 0), (4, .own 6 out), (5, .d (.int .i64 q.1)), (6, .d (.int .i64 q.2)), (7, .d (.int .i64 i)), (9, .lref 9 0), (9, .lref 9 0), (10, .d (.int .i64 11)), (139, .d (.int .i64 lim)), (140, .d (.int .i64 j))],
    bx := [(3, [.int .i64 0, .int .i64 0, .int .i64 0, .int .i64 0]), (3, [.int .i64 0, .int .i64 0, .int .i64 0, .int .i64 0]), (9, cs), (9, cs)] }
def cm_end (t : List UInt8) (q : Nat × Nat) (i : Nat) (out cs : List D) (lim j : Nat) : St :=
  { env := [(0, .d (.str t)), (3, .lref 3 0), (3, .lref 3 0), (4, .own 6 out), (5, .d (.int .i64 q.1)), (6, .d (.int .i64 q.2)), (7, .d (.int .i64 i)), (9, .lref 9 0), (9, .lref 9 0), (10, .d (.int .i64 11)), (139, .d (.int .i64 lim)), (140, .d (.int .i64 j)), (141, .d (.bool false))],
    bx := [(3, [.int .i64 0, .int .i64 0, .int .i64 0, .int .i64 0]), (3, [.int .i64 0, .int .i64 0, .int .i64 0, .int .i64 0]), (9, cs), (9, cs)] }
theorem cm_loop (t : List UInt8) (line first i : Nat) (out cs : List D) (lim : Nat) (ht : t.length ≤ 65536) (hf : first ≤ i) (hl : line ≤ 65537) (hlim : i + lim ≤ t.length) :
    X (M m) (.loop l_lex_Split_3) (cm_st t (line, first) i out cs lim 0) = some (.exit 1, cm_end t (posF t line first i lim) (i + lim) out cs lim lim) := by
  refine loop_to (M := M m) (b := l_lex_Split_3) (inv := fun j => cm_st t (posF t line first i j) (i + j) out cs lim j) (n := lim) (fun j hj => ?_) ?_ 0 (by omega)
  · have hg : t[i + j]? = some t[i + j] := by simp [show i + j < t.length by omega]
    have hle := posF_le t line first i hf j
    simp only [posF, hg, Option.getD_some]
    generalize posF t line first i j = q at hle
    generalize t[i + j] = c at hg
    have hcl := c.toNat_lt
    have e1 : i + (j + 1) - 1 = i + j := by omega
    by_cases h : c.toNat = 10
    · simp only [h, if_true]
      simp -implicitDefEqProofs (maxSteps := 1000000) (disch := omega) only [↓Int.reduceLT, ↓Int.reduceLE, ↓Int.reduceEq, ↓Nat.reduceEqDiff, Nat.reduceBEq, ↓reduceIte, St.toRS, restrict, initEnv, plainArgs, reduceCtorEq, Nat.reduceEqDiff, Nat.reduceAdd, Nat.reduceMul, Int.reduceLT, Int.reduceLE, Int.reduceEq, Int.reduceNeg, Int.reduceAdd, Int.reduceToNat, Int.reduceNe, Nat.reduceSub, Int.reducePow, Int.reduceMul, vb0, vb1, vb2, vb3, vb4, vb5, vb6, vb7, l_lex_Split_3, cm_st, e1, hg, Nat.add_assoc]
    · simp only [h, if_false]
      simp -implicitDefEqProofs (maxSteps := 1000000) (disch := omega) only [↓Int.reduceLT, ↓Int.reduceLE, ↓Int.reduceEq, ↓Nat.reduceEqDiff, Nat.reduceBEq, ↓reduceIte, St.toRS, restrict, initEnv, plainArgs, reduceCtorEq, Nat.reduceEqDiff, Nat.reduceAdd, Nat.reduceMul, Int.reduceLT, Int.reduceLE, Int.reduceEq, Int.reduceNeg, Int.reduceAdd, Int.reduceToNat, Int.reduceNe, Nat.reduceSub, Int.reducePow, Int.reduceMul, vb0, vb1, vb2, vb3, vb4, vb5, vb6, vb7, l_lex_Split_3, cm_st, e1, hg, Nat.add_assoc]
  · refine loop_exit ?_ (by simp)
    simp -implicitDefEqProofs (maxSteps := 1000000) (disch := omega) only [↓Int.reduceLT, ↓Int.reduceLE, ↓Int.reduceEq, ↓Nat.reduceEqDiff, Nat.reduceBEq, ↓reduceIte, St.toRS, restrict, initEnv, plainArgs, reduceCtorEq, Nat.reduceEqDiff, Nat.reduceAdd, Nat.reduceMul, Int.reduceLT, Int.reduceLE, Int.reduceEq, Int.reduceNeg, Int.reduceAdd, Int.reduceToNat, Int.reduceNe, Nat.reduceSub, Int.reducePow, Int.reduceMul, vb0, vb1, vb2, vb3, vb4, vb5, vb6, vb7, l_lex_Split_3, cm_st, cm_end]
theorem sp_comment (t : List UInt8) (line first i : Nat) (out cs : List D) (ex : List (Nat × V)) (ht : t.length ≤ 65536) (hf : first ≤ i) (hi : i < t.length) (hl : line ≤ 65537) (ho : out.length ≤ 65536) (hc : cs.length = 6) (c : UInt8) (hg : t[i]? = some c) (h : (t.drop i).take 2 = [47, 42]) :
    match ce (t.drop (i + 2)) with
    | none => X (M m) (.scope b_lex_Split_49 (.seq .skip sp_t7)) (sp_st t line first i out cs ex) = sp_ret [] 11 line (i - first + 1 : Nat)
    | some k => ∃ cs' ex', cs'.length = 6 ∧ X (M m) (.scope b_lex_Split_49 (.seq .skip sp_t7)) (sp_st t line first i out cs ex) = X (M m) (.scope b_lex_Split_49 (.seq .skip sp_t7)) (sp_st t ((posF t line first i (k + 4)).1) ((posF t line first i (k + 4)).2) (i + (k + 4)) (out) cs' ex') := by
  have hset := set6 hc
  obtain ⟨rfl, h2⟩ := twoB t i c hi hg 47 42 h
  have q1 := has_spec (m := m) (t.drop i) [47, 42] (by simp; omega) (by decide)
  have q0 := has_spec (m := m) (t.drop i) [47, 47] (by simp; omega) (by decide)
  simp only [List.length_cons, List.length_nil, Nat.zero_add, Nat.reduceAdd, h, decide_true] at q1 q0
  have q0' : C (M m) 13 [.d (.str (t.drop i)), .d (.str [47, 47])] = some (.d (.bool false)) := q0
  have q2 := ix_spec (m := m) (t.drop (i + 2)) [42, 47] (by simp; omega)
  have c47 : ((UInt8.toNat 47 : Nat) : Int) = 47 := rfl
  have hx := ce_index (t.drop (i + 2))
  have hct := ce_lt (t.drop (i + 2))
  rw [X_scope]
  cases hk : ce (t.drop (i + 2)) with
  | none =>
    rw [hk] at hx
    simp only at hx ⊢
    rw [hx] at q2
    simp -implicitDefEqProofs (maxSteps := 1000000) (disch := omega) only [↓Int.reduceLT, ↓Int.reduceLE, ↓Int.reduceEq, ↓Nat.reduceEqDiff, Nat.reduceBEq, ↓reduceIte, St.toRS, restrict, initEnv, plainArgs, reduceCtorEq, Nat.reduceEqDiff, Nat.reduceAdd, Nat.reduceMul, Int.reduceLT, Int.reduceLE, Int.reduceEq, Int.reduceNeg, Int.reduceAdd, Int.reduceToNat, Int.reduceNe, Nat.reduceSub, Int.reducePow, Int.reduceMul, vb0, vb1, vb2, vb3, vb4, vb5, vb6, vb7, sp_t7, sp_p7, sp_t8, sp_p8, sp_t9, sp_p9, sp_t10, sp_p10, sp_t11, sp_p11, sp_t12, sp_p12, sp_t13, sp_p13, sp_t14, sp_p14, sp_st, jump0, jump1, jump2, jump3, fill, setAt, hset, hc, List.set_cons_succ, List.set_cons_zero, sub, List.getElem?_cons_zero, List.getElem?_cons_succ, List.drop_zero, List.take_succ_cons, List.take_zero, List.take_length, hg, q1, q0', c47]
    rw [X_scope]
    simp -implicitDefEqProofs (maxSteps := 1000000) (disch := omega) only [↓Int.reduceLT, ↓Int.reduceLE, ↓Int.reduceEq, ↓Nat.reduceEqDiff, Nat.reduceBEq, ↓reduceIte, St.toRS, restrict, initEnv, plainArgs, reduceCtorEq, Nat.reduceEqDiff, Nat.reduceAdd, Nat.reduceMul, Int.reduceLT, Int.reduceLE, Int.reduceEq, Int.reduceNeg, Int.reduceAdd, Int.reduceToNat, Int.reduceNe, Nat.reduceSub, Int.reducePow, Int.reduceMul, vb0, vb1, vb2, vb3, vb4, vb5, vb6, vb7, sp_t16, sp_p16, q2, jump3, List.take_length]
    rw [X_scope]
    simp -implicitDefEqProofs (maxSteps := 1000000) (disch := omega) only [↓Int.reduceLT, ↓Int.reduceLE, ↓Int.reduceEq, ↓Nat.reduceEqDiff, Nat.reduceBEq, ↓reduceIte, St.toRS, restrict, initEnv, plainArgs, reduceCtorEq, Nat.reduceEqDiff, Nat.reduceAdd, Nat.reduceMul, Int.reduceLT, Int.reduceLE, Int.reduceEq, Int.reduceNeg, Int.reduceAdd, Int.reduceToNat, Int.reduceNe, Nat.reduceSub, Int.reducePow, Int.reduceMul, vb0, vb1, vb2, vb3, vb4, vb5, vb6, vb7, sp_t20, sp_p20, sp_t21, jumpR, fill, setAt, List.set_cons_succ, List.set_cons_zero, sub, List.getElem?_cons_zero, List.getElem?_cons_succ, List.drop_zero, List.take_succ_cons, List.take_zero, sp_ret]
  | some k =>
    rw [hk] at hx
    simp only at hx ⊢
    rw [hx] at q2
    have := hct k hk
    simp only [List.length_drop] at this
    refine ⟨[.int .i64 0, .str [], .int .u64 0, .slice 0 [], .int .i64 line, .int .i64 (i - first + 1 : Nat)], [(139, .d (.int .i64 (k + 4 : Nat))), (140, .d (.int .i64 (k + 4 : Nat))), (141, .d (.bool false))], rfl, ?_⟩
    have hl := cm_loop (m := m) t line first i out [.int .i64 0, .str [], .int .u64 0, .slice 0 [], .int .i64 line, .int .i64 (i - first + 1 : Nat)] (k + 4) ht hf hl (by omega)
    simp only [cm_st, cm_end, Int.cast_ofNat_Int] at hl
    simp -implicitDefEqProofs (maxSteps := 1000000) (disch := omega) only [↓Int.reduceLT, ↓Int.reduceLE, ↓Int.reduceEq, ↓Nat.reduceEqDiff, Nat.reduceBEq, ↓reduceIte, St.toRS, restrict, initEnv, plainArgs, reduceCtorEq, Nat.reduceEqDiff, Nat.reduceAdd, Nat.reduceMul, Int.reduceLT, Int.reduceLE, Int.reduceEq, Int.reduceNeg, Int.reduceAdd, Int.reduceToNat, Int.reduceNe, Nat.reduceSub, Int.reducePow, Int.reduceMul, vb0, vb1, vb2, vb3, vb4, vb5, vb6, vb7, sp_t7, sp_p7, sp_t8, sp_p8, sp_t9, sp_p9, sp_t10, sp_p10, sp_t11, sp_p11, sp_t12, sp_p12, sp_t13, sp_p13, sp_t14, sp_p14, sp_st, jump0, jump1, jump2, jump3, fill, setAt, hset, hc, List.set_cons_succ, List.set_cons_zero, sub, List.getElem?_cons_zero, List.getElem?_cons_succ, List.drop_zero, List.take_succ_cons, List.take_zero, List.take_length, hg, q1, q0', c47]
    rw [X_scope]
    simp -implicitDefEqProofs (maxSteps := 1000000) (disch := omega) only [↓Int.reduceLT, ↓Int.reduceLE, ↓Int.reduceEq, ↓Nat.reduceEqDiff, Nat.reduceBEq, ↓reduceIte, St.toRS, restrict, initEnv, plainArgs, reduceCtorEq, Nat.reduceEqDiff, Nat.reduceAdd, Nat.reduceMul, Int.reduceLT, Int.reduceLE, Int.reduceEq, Int.reduceNeg, Int.reduceAdd, Int.reduceToNat, Int.reduceNe, Nat.reduceSub, Int.reducePow, Int.reduceMul, vb0, vb1, vb2, vb3, vb4, vb5, vb6, vb7, sp_t16, sp_p16, sp_t17, sp_p17, sp_t18, sp_p18, q2, jump0, List.take_length, hl]
    rfl

theorem sp_name (t : List UInt8) (line first i : Nat) (out cs : List D) (ex : List (Nat × V)) (ht : t.length ≤ 65536) (hf : first ≤ i) (hi : i < t.length) (hl : line ≤ 65537) (ho : out.length ≤ 65536) (hc : cs.length = 6) (c : UInt8) (hg : t[i]? = some c) (n1 : ¬ (c.toNat = 10 ∨ c.toNat = 32 ∨ c.toNat = 9 ∨ c.toNat = 13)) (n2 : ¬ (t.drop i).take 2 = [47, 47]) (n3 : ¬ (t.drop i).take 2 = [47, 42]) (h : isLetter c.toNat = true) :
    ∃ cs' ex', cs'.length = 6 ∧ X (M m) (.scope b_lex_Split_49 (.seq .skip sp_t7)) (sp_st t line first i out cs ex) = X (M m) (.scope b_lex_Split_49 (.seq .skip sp_t7)) (sp_st t (line) (first) (i + wl (t.drop i)) (out ++ [wdD ⟨1, (t.drop i).take (wl (t.drop i)), 0, 0, [], line, i - first + 1⟩]) cs' ex') := by
  have hset := set6 hc
  have q0 := has_spec (m := m) (t.drop i) [47, 47] (by simp; omega) (by decide)
  have q1 := has_spec (m := m) (t.drop i) [47, 42] (by simp; omega) (by decide)
  simp only [List.length_cons, List.length_nil, Nat.zero_add, Nat.reduceAdd, n2, n3, decide_false] at q0 q1
  have hd : t.drop i ≠ [] := by
    intro h
    have := congrArg List.length h
    simp at this; omega
  have q2 := letter_spec (m := m) c
  rw [h] at q2
  have q3 := named_spec (m := m) t i (by omega) (by omega)
  have hw := wl_le (t.drop i)
  simp only [List.length_drop] at hw
  have e : i + wl (t.drop i) - i = wl (t.drop i) := by omega
  have e2 : (t.take (i + wl (t.drop i))).drop i = (t.drop i).take (wl (t.drop i)) := by rw [List.drop_take, e]
  refine ⟨[.int .i64 1, .str ((t.drop i).take (wl (t.drop i))), .int .u64 0, .slice 0 [], .int .i64 line, .int .i64 (i - first + 1 : Nat)], [], rfl, ?_⟩
  rw [X_scope]
  simp -implicitDefEqProofs (maxSteps := 1000000) (disch := omega) only [↓Int.reduceLT, ↓Int.reduceLE, ↓Int.reduceEq, ↓Nat.reduceEqDiff, Nat.reduceBEq, ↓reduceIte, St.toRS, restrict, initEnv, plainArgs, reduceCtorEq, Nat.reduceEqDiff, Nat.reduceAdd, Nat.reduceMul, Int.reduceLT, Int.reduceLE, Int.reduceEq, Int.reduceNeg, Int.reduceAdd, Int.reduceToNat, Int.reduceNe, Nat.reduceSub, Int.reducePow, Int.reduceMul, vb0, vb1, vb2, vb3, vb4, vb5, vb6, vb7, sp_t7, sp_p7, sp_t8, sp_p8, sp_t9, sp_p9, sp_t10, sp_p10, sp_t11, sp_p11, sp_t12, sp_p12, sp_t13, sp_p13, sp_t14, sp_p14, sp_st, jump0, jump1, jump2, jump3, fill, setAt, hset, hc, List.set_cons_succ, List.set_cons_zero, sub, List.getElem?_cons_zero, List.getElem?_cons_succ, List.drop_zero, List.take_succ_cons, List.take_zero, List.take_length, hg, q0, q1, q2, q3, e, e2, wdD, bytesD_nil]
theorem sp_number (t : List UInt8) (line first i : Nat) (out cs : List D) (ex : List (Nat × V)) (ht : t.length ≤ 65536) (hf : first ≤ i) (hi : i < t.length) (hl : line ≤ 65537) (ho : out.length ≤ 65536) (hc : cs.length = 6) (c : UInt8) (hg : t[i]? = some c) (n1 : ¬ (c.toNat = 10 ∨ c.toNat = 32 ∨ c.toNat = 9 ∨ c.toNat = 13)) (n2 : ¬ (t.drop i).take 2 = [47, 47]) (n3 : ¬ (t.drop i).take 2 = [47, 42]) (h1 : isLetter c.toNat = false) (h : isDigit c.toNat = true) :
    if (numberL (t.drop i)).2.2 = 0 then ∃ cs' ex', cs'.length = 6 ∧ X (M m) (.scope b_lex_Split_49 (.seq .skip sp_t7)) (sp_st t line first i out cs ex) = X (M m) (.scope b_lex_Split_49 (.seq .skip sp_t7)) (sp_st t (line) (first) (i + (numberL (t.drop i)).1) (out ++ [wdD ⟨2, (t.drop i).take (numberL (t.drop i)).1, (numberL (t.drop i)).2.1, 0, [], line, i - first + 1⟩]) cs' ex')
    else X (M m) (.scope b_lex_Split_49 (.seq .skip sp_t7)) (sp_st t line first i out cs ex) = sp_ret [] (numberL (t.drop i)).2.2 line (i - first + 1 : Nat) := by
  have hset := set6 hc
  have q0 := has_spec (m := m) (t.drop i) [47, 47] (by simp; omega) (by decide)
  have q1 := has_spec (m := m) (t.drop i) [47, 42] (by simp; omega) (by decide)
  simp only [List.length_cons, List.length_nil, Nat.zero_add, Nat.reduceAdd, n2, n3, decide_false] at q0 q1
  have hd : t.drop i ≠ [] := by
    intro h
    have := congrArg List.length h
    simp at this; omega
  have q2 := letter_spec (m := m) c
  rw [h1] at q2
  have q3 := digit_spec (m := m) c
  rw [h] at q3
  have q4 := number_spec (m := m) (t.drop i) (by simp; omega)
  have hle := numberL_le (t.drop i)
  simp only [List.length_drop] at hle
  generalize numberL (t.drop i) = p at *
  obtain ⟨len, n, e⟩ := p
  simp only at q4 hle ⊢
  have e2 : (t.take (i + len)).drop i = (t.drop i).take len := by rw [List.drop_take, show i + len - i = len by omega]
  split
  · rename_i he
    subst he
    refine ⟨[.int .i64 2, .str ((t.drop i).take len), .int .u64 n, .slice 0 [], .int .i64 line, .int .i64 (i - first + 1 : Nat)], [], rfl, ?_⟩
    rw [X_scope]
    simp -implicitDefEqProofs (maxSteps := 1000000) (disch := omega) only [↓Int.reduceLT, ↓Int.reduceLE, ↓Int.reduceEq, ↓Nat.reduceEqDiff, Nat.reduceBEq, ↓reduceIte, St.toRS, restrict, initEnv, plainArgs, reduceCtorEq, Nat.reduceEqDiff, Nat.reduceAdd, Nat.reduceMul, Int.reduceLT, Int.reduceLE, Int.reduceEq, Int.reduceNeg, Int.reduceAdd, Int.reduceToNat, Int.reduceNe, Nat.reduceSub, Int.reducePow, Int.reduceMul, vb0, vb1, vb2, vb3, vb4, vb5, vb6, vb7, sp_t7, sp_p7, sp_t8, sp_p8, sp_t9, sp_p9, sp_t10, sp_p10, sp_t11, sp_p11, sp_t12, sp_p12, sp_t13, sp_p13, sp_t14, sp_p14, sp_st, jump0, jump1, jump2, jump3, fill, setAt, hset, hc, List.set_cons_succ, List.set_cons_zero, sub, List.getElem?_cons_zero, List.getElem?_cons_succ, List.drop_zero, List.take_succ_cons, List.take_zero, List.take_length, hg, q0, q1, q2, q3, q4, e2, wdD, bytesD_nil]
  · rename_i he
    rw [X_scope]
    simp -implicitDefEqProofs (maxSteps := 1000000) (disch := omega) only [↓Int.reduceLT, ↓Int.reduceLE, ↓Int.reduceEq, ↓Nat.reduceEqDiff, Nat.reduceBEq, ↓reduceIte, St.toRS, restrict, initEnv, plainArgs, reduceCtorEq, Nat.reduceEqDiff, Nat.reduceAdd, Nat.reduceMul, Int.reduceLT, Int.reduceLE, Int.reduceEq, Int.reduceNeg, Int.reduceAdd, Int.reduceToNat, Int.reduceNe, Nat.reduceSub, Int.reducePow, Int.reduceMul, vb0, vb1, vb2, vb3, vb4, vb5, vb6, vb7, sp_t7, sp_p7, sp_t8, sp_p8, sp_t9, sp_p9, sp_t10, sp_p10, sp_t11, sp_p11, sp_t12, sp_p12, sp_t13, sp_p13, sp_t14, sp_p14, sp_st, jump0, jump1, jump2, jump3, fill, setAt, hset, hc, List.set_cons_succ, List.set_cons_zero, sub, List.getElem?_cons_zero, List.getElem?_cons_succ, List.drop_zero, List.take_succ_cons, List.take_zero, List.take_length, hg, q0, q1, q2, q3, q4, he]
    rw [X_scope]
    simp -implicitDefEqProofs (maxSteps := 1000000) (disch := omega) only [↓Int.reduceLT, ↓Int.reduceLE, ↓Int.reduceEq, ↓Nat.reduceEqDiff, Nat.reduceBEq, ↓reduceIte, St.toRS, restrict, initEnv, plainArgs, reduceCtorEq, Nat.reduceEqDiff, Nat.reduceAdd, Nat.reduceMul, Int.reduceLT, Int.reduceLE, Int.reduceEq, Int.reduceNeg, Int.reduceAdd, Int.reduceToNat, Int.reduceNe, Nat.reduceSub, Int.reducePow, Int.reduceMul, vb0, vb1, vb2, vb3, vb4, vb5, vb6, vb7, sp_t20, sp_p20, sp_t21, jumpR, fill, setAt, List.set_cons_succ, List.set_cons_zero, sub, List.getElem?_cons_zero, List.getElem?_cons_succ, List.drop_zero, List.take_succ_cons, List.take_zero, sp_ret]
theorem sp_text (t : List UInt8) (line first i : Nat) (out cs : List D) (ex : List (Nat × V)) (ht : t.length ≤ 65536) (hf : first ≤ i) (hi : i < t.length) (hl : line ≤ 65537) (ho : out.length ≤ 65536) (hc : cs.length = 6) (c : UInt8) (hg : t[i]? = some c) (n1 : ¬ (c.toNat = 10 ∨ c.toNat = 32 ∨ c.toNat = 9 ∨ c.toNat = 13)) (n2 : ¬ (t.drop i).take 2 = [47, 47]) (n3 : ¬ (t.drop i).take 2 = [47, 42]) (h1 : isLetter c.toNat = false) (h2 : isDigit c.toNat = false) (h : c.toNat = 34) :
    if (quotedL (t.drop i)).1 = 0 then X (M m) (.scope b_lex_Split_49 (.seq .skip sp_t7)) (sp_st t line first i out cs ex) = sp_ret [] 11 line (i - first + 1 : Nat)
    else ∃ cs' ex', cs'.length = 6 ∧ X (M m) (.scope b_lex_Split_49 (.seq .skip sp_t7)) (sp_st t line first i out cs ex) = X (M m) (.scope b_lex_Split_49 (.seq .skip sp_t7)) (sp_st t (line) (first) (i + (quotedL (t.drop i)).1) (out ++ [wdD ⟨3, (t.drop i).take (quotedL (t.drop i)).1, 0, 1, (quotedL (t.drop i)).2, line, i - first + 1⟩]) cs' ex') := by
  have hset := set6 hc
  have q0 := has_spec (m := m) (t.drop i) [47, 47] (by simp; omega) (by decide)
  have q1 := has_spec (m := m) (t.drop i) [47, 42] (by simp; omega) (by decide)
  simp only [List.length_cons, List.length_nil, Nat.zero_add, Nat.reduceAdd, n2, n3, decide_false] at q0 q1
  have hd : t.drop i ≠ [] := by
    intro h
    have := congrArg List.length h
    simp at this; omega
  have q2 := letter_spec (m := m) c
  rw [h1] at q2
  have q3 := digit_spec (m := m) c
  rw [h2] at q3
  have q4 := quoted_spec (m := m) (t.drop i) (by simp; omega) (by simp; omega)
  have hle := quotedL_le (t.drop i)
  simp only [List.length_drop] at hle
  generalize quotedL (t.drop i) = p at *
  obtain ⟨len, b⟩ := p
  simp only at q4 hle ⊢
  have e2 : (t.take (i + len)).drop i = (t.drop i).take len := by rw [List.drop_take, show i + len - i = len by omega]
  split
  · rename_i he
    subst he
    rw [X_scope]
    simp -implicitDefEqProofs (maxSteps := 1000000) (disch := omega) only [↓Int.reduceLT, ↓Int.reduceLE, ↓Int.reduceEq, ↓Nat.reduceEqDiff, Nat.reduceBEq, ↓reduceIte, St.toRS, restrict, initEnv, plainArgs, reduceCtorEq, Nat.reduceEqDiff, Nat.reduceAdd, Nat.reduceMul, Int.reduceLT, Int.reduceLE, Int.reduceEq, Int.reduceNeg, Int.reduceAdd, Int.reduceToNat, Int.reduceNe, Nat.reduceSub, Int.reducePow, Int.reduceMul, vb0, vb1, vb2, vb3, vb4, vb5, vb6, vb7, sp_t7, sp_p7, sp_t8, sp_p8, sp_t9, sp_p9, sp_t10, sp_p10, sp_t11, sp_p11, sp_t12, sp_p12, sp_t13, sp_p13, sp_t14, sp_p14, sp_st, jump0, jump1, jump2, jump3, fill, setAt, hset, hc, List.set_cons_succ, List.set_cons_zero, sub, List.getElem?_cons_zero, List.getElem?_cons_succ, List.drop_zero, List.take_succ_cons, List.take_zero, List.take_length, hg, q0, q1, q2, q3, q4]
    rw [X_scope]
    simp -implicitDefEqProofs (maxSteps := 1000000) (disch := omega) only [↓Int.reduceLT, ↓Int.reduceLE, ↓Int.reduceEq, ↓Nat.reduceEqDiff, Nat.reduceBEq, ↓reduceIte, St.toRS, restrict, initEnv, plainArgs, reduceCtorEq, Nat.reduceEqDiff, Nat.reduceAdd, Nat.reduceMul, Int.reduceLT, Int.reduceLE, Int.reduceEq, Int.reduceNeg, Int.reduceAdd, Int.reduceToNat, Int.reduceNe, Nat.reduceSub, Int.reducePow, Int.reduceMul, vb0, vb1, vb2, vb3, vb4, vb5, vb6, vb7, sp_t20, sp_p20, sp_t21, jumpR, fill, setAt, List.set_cons_succ, List.set_cons_zero, sub, List.getElem?_cons_zero, List.getElem?_cons_succ, List.drop_zero, List.take_succ_cons, List.take_zero, sp_ret]
  · rename_i he
    refine ⟨[.int .i64 3, .str ((t.drop i).take len), .int .u64 0, .slice 1 (bytesD b), .int .i64 line, .int .i64 (i - first + 1 : Nat)], [], rfl, ?_⟩
    rw [X_scope]
    simp -implicitDefEqProofs (maxSteps := 1000000) (disch := omega) only [↓Int.reduceLT, ↓Int.reduceLE, ↓Int.reduceEq, ↓Nat.reduceEqDiff, Nat.reduceBEq, ↓reduceIte, St.toRS, restrict, initEnv, plainArgs, reduceCtorEq, Nat.reduceEqDiff, Nat.reduceAdd, Nat.reduceMul, Int.reduceLT, Int.reduceLE, Int.reduceEq, Int.reduceNeg, Int.reduceAdd, Int.reduceToNat, Int.reduceNe, Nat.reduceSub, Int.reducePow, Int.reduceMul, vb0, vb1, vb2, vb3, vb4, vb5, vb6, vb7, sp_t7, sp_p7, sp_t8, sp_p8, sp_t9, sp_p9, sp_t10, sp_p10, sp_t11, sp_p11, sp_t12, sp_p12, sp_t13, sp_p13, sp_t14, sp_p14, sp_st, jump0, jump1, jump2, jump3, fill, setAt, hset, hc, List.set_cons_succ, List.set_cons_zero, sub, List.getElem?_cons_zero, List.getElem?_cons_succ, List.drop_zero, List.take_succ_cons, List.take_zero, List.take_length, hg, q0, q1, q2, q3, q4, e2, wdD]
theorem sp_sign (t : List UInt8) (line first i : Nat) (out cs : List D) (ex : List (Nat × V)) (ht : t.length ≤ 65536) (hf : first ≤ i) (hi : i < t.length) (hl : line ≤ 65537) (ho : out.length ≤ 65536) (hc : cs.length = 6) (c : UInt8) (hg : t[i]? = some c) (n1 : ¬ (c.toNat = 10 ∨ c.toNat = 32 ∨ c.toNat = 9 ∨ c.toNat = 13)) (n2 : ¬ (t.drop i).take 2 = [47, 47]) (n3 : ¬ (t.drop i).take 2 = [47, 42]) (h1 : isLetter c.toNat = false) (h2 : isDigit c.toNat = false) (h3 : c.toNat ≠ 34) (h : isSign c.toNat = true) :
    ∃ cs' ex', cs'.length = 6 ∧ X (M m) (.scope b_lex_Split_49 (.seq .skip sp_t7)) (sp_st t line first i out cs ex) = X (M m) (.scope b_lex_Split_49 (.seq .skip sp_t7)) (sp_st t (line) (first) (i + 1) (out ++ [wdD ⟨4, (t.drop i).take 1, 0, 0, [], line, i - first + 1⟩]) cs' ex') := by
  have hset := set6 hc
  have q0 := has_spec (m := m) (t.drop i) [47, 47] (by simp; omega) (by decide)
  have q1 := has_spec (m := m) (t.drop i) [47, 42] (by simp; omega) (by decide)
  simp only [List.length_cons, List.length_nil, Nat.zero_add, Nat.reduceAdd, n2, n3, decide_false] at q0 q1
  have hd : t.drop i ≠ [] := by
    intro h
    have := congrArg List.length h
    simp at this; omega
  have q2 := letter_spec (m := m) c
  rw [h1] at q2
  have q3 := digit_spec (m := m) c
  rw [h2] at q3
  have q4 : C (M m) 14 [.d (.str [123, 125, 91, 93, 40, 41, 60, 62, 61, 59, 44, 46, 45, 58, 63]), .d (.int .u8 (c.toNat : Int))] = some (.d (.int .i64 (Go.Lib.indexByte signL c))) := ib_spec signL c
  have hs := (sign_eq c).2 h
  have e2 : (t.take (i + 1)).drop i = (t.drop i).take 1 := by rw [List.drop_take, show i + 1 - i = 1 by omega]
  refine ⟨[.int .i64 4, .str ((t.drop i).take 1), .int .u64 0, .slice 0 [], .int .i64 line, .int .i64 (i - first + 1 : Nat)], [], rfl, ?_⟩
  rw [X_scope]
  simp -implicitDefEqProofs (maxSteps := 1000000) (disch := omega) only [↓Int.reduceLT, ↓Int.reduceLE, ↓Int.reduceEq, ↓Nat.reduceEqDiff, Nat.reduceBEq, ↓reduceIte, St.toRS, restrict, initEnv, plainArgs, reduceCtorEq, Nat.reduceEqDiff, Nat.reduceAdd, Nat.reduceMul, Int.reduceLT, Int.reduceLE, Int.reduceEq, Int.reduceNeg, Int.reduceAdd, Int.reduceToNat, Int.reduceNe, Nat.reduceSub, Int.reducePow, Int.reduceMul, vb0, vb1, vb2, vb3, vb4, vb5, vb6, vb7, sp_t7, sp_p7, sp_t8, sp_p8, sp_t9, sp_p9, sp_t10, sp_p10, sp_t11, sp_p11, sp_t12, sp_p12, sp_t13, sp_p13, sp_t14, sp_p14, sp_st, jump0, jump1, jump2, jump3, fill, setAt, hset, hc, List.set_cons_succ, List.set_cons_zero, sub, List.getElem?_cons_zero, List.getElem?_cons_succ, List.drop_zero, List.take_length, hg, q0, q1, q2, q3, q4, e2, wdD, bytesD_nil, List.take_succ_cons, List.take_zero]
theorem sp_bad (t : List UInt8) (line first i : Nat) (out cs : List D) (ex : List (Nat × V)) (ht : t.length ≤ 65536) (hf : first ≤ i) (hi : i < t.length) (hl : line ≤ 65537) (ho : out.length ≤ 65536) (hc : cs.length = 6) (c : UInt8) (hg : t[i]? = some c) (n1 : ¬ (c.toNat = 10 ∨ c.toNat = 32 ∨ c.toNat = 9 ∨ c.toNat = 13)) (n2 : ¬ (t.drop i).take 2 = [47, 47]) (n3 : ¬ (t.drop i).take 2 = [47, 42]) (h1 : isLetter c.toNat = false) (h2 : isDigit c.toNat = false) (h3 : c.toNat ≠ 34) (h : isSign c.toNat = false) :
    X (M m) (.scope b_lex_Split_49 (.seq .skip sp_t7)) (sp_st t line first i out cs ex) = sp_ret [] 11 line (i - first + 1 : Nat) := by
  have hset := set6 hc
  have q0 := has_spec (m := m) (t.drop i) [47, 47] (by simp; omega) (by decide)
  have q1 := has_spec (m := m) (t.drop i) [47, 42] (by simp; omega) (by decide)
  simp only [List.length_cons, List.length_nil, Nat.zero_add, Nat.reduceAdd, n2, n3, decide_false] at q0 q1
  have hd : t.drop i ≠ [] := by
    intro h
    have := congrArg List.length h
    simp at this; omega
  have q2 := letter_spec (m := m) c
  rw [h1] at q2
  have q3 := digit_spec (m := m) c
  rw [h2] at q3
  have q4 : C (M m) 14 [.d (.str [123, 125, 91, 93, 40, 41, 60, 62, 61, 59, 44, 46, 45, 58, 63]), .d (.int .u8 (c.toNat : Int))] = some (.d (.int .i64 (Go.Lib.indexByte signL c))) := ib_spec signL c
  have hs : Go.Lib.indexByte signL c < 0 := by
    rcases Int.lt_or_le (Go.Lib.indexByte signL c) 0 with h' | h'
    · exact h'
    · rw [(sign_eq c).1 h'] at h; cases h
  rw [X_scope]
  simp -implicitDefEqProofs (maxSteps := 1000000) (disch := omega) only [↓Int.reduceLT, ↓Int.reduceLE, ↓Int.reduceEq, ↓Nat.reduceEqDiff, Nat.reduceBEq, ↓reduceIte, St.toRS, restrict, initEnv, plainArgs, reduceCtorEq, Nat.reduceEqDiff, Nat.reduceAdd, Nat.reduceMul, Int.reduceLT, Int.reduceLE, Int.reduceEq, Int.reduceNeg, Int.reduceAdd, Int.reduceToNat, Int.reduceNe, Nat.reduceSub, Int.reducePow, Int.reduceMul, vb0, vb1, vb2, vb3, vb4, vb5, vb6, vb7, sp_t7, sp_p7, sp_t8, sp_p8, sp_t9, sp_p9, sp_t10, sp_p10, sp_t11, sp_p11, sp_t12, sp_p12, sp_t13, sp_p13, sp_t14, sp_p14, sp_st, jump0, jump1, jump2, jump3, fill, setAt, hset, hc, List.set_cons_succ, List.set_cons_zero, sub, List.getElem?_cons_zero, List.getElem?_cons_succ, List.drop_zero, List.take_succ_cons, List.take_zero, List.take_length, hg, q0, q1, q2, q3, q4]
  rw [X_scope]
  simp -implicitDefEqProofs (maxSteps := 1000000) (disch := omega) only [↓Int.reduceLT, ↓Int.reduceLE, ↓Int.reduceEq, ↓Nat.reduceEqDiff, Nat.reduceBEq, ↓reduceIte, St.toRS, restrict, initEnv, plainArgs, reduceCtorEq, Nat.reduceEqDiff, Nat.reduceAdd, Nat.reduceMul, Int.reduceLT, Int.reduceLE, Int.reduceEq, Int.reduceNeg, Int.reduceAdd, Int.reduceToNat, Int.reduceNe, Nat.reduceSub, Int.reducePow, Int.reduceMul, vb0, vb1, vb2, vb3, vb4, vb5, vb6, vb7, sp_t20, sp_p20, sp_t21, jumpR, fill, setAt, List.set_cons_succ, List.set_cons_zero, sub, List.getElem?_cons_zero, List.getElem?_cons_succ, List.drop_zero, List.take_succ_cons, List.take_zero, sp_ret]
end Go.Proofs.Ytladdhfkmnhmfaa
