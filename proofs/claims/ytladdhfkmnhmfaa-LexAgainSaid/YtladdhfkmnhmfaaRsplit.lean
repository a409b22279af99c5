/-
  The reference's Split: over data.
-/
import Derived.Test.YtladdhfkmnhmfaaSpace
set_option linter.unusedVariables false
set_option linter.unusedSimpArgs false
set_option maxRecDepth 100000
set_option maxHeartbeats 8000000
namespace Go.Proofs.Ytladdhfkmnhmfaa
open Go.Vi
variable {m : Int}

theorem runq_unq (t : List UInt8) (ht : t.length ≤ 65536) : (runquoteL t).2 = decide ((unquoteL t).2 = 0) ∧ ((unquoteL t).2 = 0 → (runquoteL t).1 = (unquoteL t).1) := by
  unfold runquoteL unquoteL
  rw [if_neg (show ¬ 65536 < t.length by omega)]
  split
  · simp
  · split <;> simp_all

def rs_st (t : List UInt8) (i : Nat) (p : Nat × Nat) (out : List D) (ex : List (Nat × V)) : St :=
  { env := (0, .d (.str t)) :: (3, .lref 3 0) :: (3, .lref 3 0) :: (4, .own 6 out) :: (5, .lref 5 0) :: ex,
    bx := [(3, [.int .i64 0, .int .i64 0, .int .i64 0, .int .i64 0]), (3, [.int .i64 0, .int .i64 0, .int .i64 0, .int .i64 0]), (5, [.int .i64 i, .int .i64 p.1, .int .i64 p.2])] }

theorem rs_open (t : List UInt8) (i j : Nat) (p q : Nat × Nat) (out : List D) (ex : List (Nat × V)) (ht : t.length ≤ 65536) (hj : j ≤ t.length) (ho : out.length ≤ 65536) (hq : q.1 ≤ 131072 ∧ q.2 ≤ 131072) (hsp : C (M m) 21 [.d (.str t), .d (.int .i64 i)] = some (.tup [.int .i64 j, .bool false])) (hto : C (M m) 22 [.d (.str t), .d (.agg [.int .i64 i, .int .i64 p.1, .int .i64 p.2]), .d (.int .i64 j)] = some (.d (.agg [.int .i64 j, .int .i64 q.1, .int .i64 q.2]))) :
    X (M m) l_ref4_Split_0 (rs_st t i p out ex) = sp_ret [] 11 q.1 q.2 := by
  simp -implicitDefEqProofs (maxSteps := 1000000) (disch := omega) only [↓Int.reduceLT, ↓Int.reduceLE, ↓Int.reduceEq, ↓Nat.reduceEqDiff, Nat.reduceBEq, ↓reduceIte, St.toRS, restrict, initEnv, plainArgs, reduceCtorEq, Nat.reduceEqDiff, Nat.reduceAdd, Nat.reduceMul, Int.reduceLT, Int.reduceLE, Int.reduceEq, Int.reduceNeg, Int.reduceAdd, Int.reduceToNat, Int.reduceNe, Nat.reduceSub, Int.reducePow, Int.reduceMul, vb0, vb1, vb2, vb3, vb4, vb5, vb6, vb7, l_ref4_Split_0, rs_st, hsp, hto, fill, setAt, List.set_cons_succ, List.set_cons_zero, sub, List.getElem?_cons_zero, List.getElem?_cons_succ, List.drop_zero, List.take_succ_cons, List.take_zero, List.take_length, sp_ret]
theorem rs_done (t : List UInt8) (i j : Nat) (p q : Nat × Nat) (out : List D) (ex : List (Nat × V)) (ht : t.length ≤ 65536) (hj : j ≤ t.length) (ho : out.length ≤ 65536) (hq : q.1 ≤ 131072 ∧ q.2 ≤ 131072) (hsp : C (M m) 21 [.d (.str t), .d (.int .i64 i)] = some (.tup [.int .i64 j, .bool true])) (hto : C (M m) 22 [.d (.str t), .d (.agg [.int .i64 i, .int .i64 p.1, .int .i64 p.2]), .d (.int .i64 j)] = some (.d (.agg [.int .i64 j, .int .i64 q.1, .int .i64 q.2]))) (hjl : j = t.length) :
    X (M m) l_ref4_Split_0 (rs_st t i p out ex) = sp_ret (out ++ [wdD ⟨5, [], 0, 0, [], q.1, q.2⟩]) 0 0 0 := by
  simp -implicitDefEqProofs (maxSteps := 1000000) (disch := omega) only [↓Int.reduceLT, ↓Int.reduceLE, ↓Int.reduceEq, ↓Nat.reduceEqDiff, Nat.reduceBEq, ↓reduceIte, St.toRS, restrict, initEnv, plainArgs, reduceCtorEq, Nat.reduceEqDiff, Nat.reduceAdd, Nat.reduceMul, Int.reduceLT, Int.reduceLE, Int.reduceEq, Int.reduceNeg, Int.reduceAdd, Int.reduceToNat, Int.reduceNe, Nat.reduceSub, Int.reducePow, Int.reduceMul, vb0, vb1, vb2, vb3, vb4, vb5, vb6, vb7, l_ref4_Split_0, rs_st, hsp, hto, fill, setAt, List.set_cons_succ, List.set_cons_zero, sub, List.getElem?_cons_zero, List.getElem?_cons_succ, List.drop_zero, List.take_succ_cons, List.take_zero, List.take_length, sp_ret, wdD, bytesD_nil]

def nl_st (t : List UInt8) (out cs ws : List D) (j k : Nat) (ex : List (Nat × V)) : St :=
  { env := [(0, .d (.str t)), (3, .lref 3 0), (3, .lref 3 0), (4, .own 6 out), (5, .lref 5 0), (5, .lref 5 0), (6, .d (.int .i64 j)), (10, .lref 10 0), (10, .lref 10 0), (11, .d (.int .i64 (k : Nat)))] ++ ex, bx := [(3, [.int .i64 0, .int .i64 0, .int .i64 0, .int .i64 0]), (3, [.int .i64 0, .int .i64 0, .int .i64 0, .int .i64 0]), (5, cs), (5, cs), (10, ws), (10, ws)] }
theorem nl_loop (t : List UInt8) (out cs ws : List D) (j : Nat) (ht : t.length ≤ 65536) : ∀ (f k : Nat), k ≤ t.length → t.length - k ≤ f →
    X (M m) (.loop l_ref4_Split_4) (nl_st t out cs ws j k []) = some (.exit 3, nl_st t out cs ws j (k + wl (t.drop k)) [(86, .d (.bool false))]) := by
  intro f
  induction f with
  | zero =>
    intro k hk hf
    obtain rfl : k = t.length := by omega
    rw [List.drop_length, wl]
    refine loop_exit ?_ (by simp)
    simp -implicitDefEqProofs (maxSteps := 1000000) (disch := omega) only [↓Int.reduceLT, ↓Int.reduceLE, ↓Int.reduceEq, ↓Nat.reduceEqDiff, Nat.reduceBEq, ↓reduceIte, St.toRS, restrict, initEnv, plainArgs, reduceCtorEq, Nat.reduceEqDiff, Nat.reduceAdd, Nat.reduceMul, Int.reduceLT, Int.reduceLE, Int.reduceEq, Int.reduceNeg, Int.reduceAdd, Int.reduceToNat, Int.reduceNe, Nat.reduceSub, Int.reducePow, Int.reduceMul, vb0, vb1, vb2, vb3, vb4, vb5, vb6, vb7, l_ref4_Split_4, nl_st, Nat.add_zero, List.cons_append, List.nil_append]
  | succ f ih =>
    intro k hk hf
    rcases Nat.lt_or_ge k t.length with hlt | hge
    · have hg : t[k]? = some t[k] := by simp [hlt]
      rw [List.drop_eq_getElem_cons hlt, wl]
      generalize t[k] = c at hg
      have q1 := rletter_spec (m := m) c
      have q2 := rdigit_spec (m := m) c
      cases h1 : isLetter c.toNat || isDigit c.toNat with
      | false =>
        simp only [Bool.or_eq_false_iff] at h1
        rw [h1.1] at q1
        rw [h1.2] at q2
        refine loop_exit ?_ (by simp)
        simp -implicitDefEqProofs (maxSteps := 1000000) (disch := omega) only [↓Int.reduceLT, ↓Int.reduceLE, ↓Int.reduceEq, ↓Nat.reduceEqDiff, Nat.reduceBEq, ↓reduceIte, St.toRS, restrict, initEnv, plainArgs, reduceCtorEq, Nat.reduceEqDiff, Nat.reduceAdd, Nat.reduceMul, Int.reduceLT, Int.reduceLE, Int.reduceEq, Int.reduceNeg, Int.reduceAdd, Int.reduceToNat, Int.reduceNe, Nat.reduceSub, Int.reducePow, Int.reduceMul, vb0, vb1, vb2, vb3, vb4, vb5, vb6, vb7, l_ref4_Split_4, nl_st, hg, q1, q2, Nat.add_zero, List.cons_append, List.nil_append]
      | true =>
        have hr : X (M m) l_ref4_Split_4 (nl_st t out cs ws j k []) = some (.norm, nl_st t out cs ws j (k + 1) []) := by
          cases h2 : isLetter c.toNat with
          | true =>
            rw [h2] at q1
            simp -implicitDefEqProofs (maxSteps := 1000000) (disch := omega) only [↓Int.reduceLT, ↓Int.reduceLE, ↓Int.reduceEq, ↓Nat.reduceEqDiff, Nat.reduceBEq, ↓reduceIte, St.toRS, restrict, initEnv, plainArgs, reduceCtorEq, Nat.reduceEqDiff, Nat.reduceAdd, Nat.reduceMul, Int.reduceLT, Int.reduceLE, Int.reduceEq, Int.reduceNeg, Int.reduceAdd, Int.reduceToNat, Int.reduceNe, Nat.reduceSub, Int.reducePow, Int.reduceMul, vb0, vb1, vb2, vb3, vb4, vb5, vb6, vb7, l_ref4_Split_4, nl_st, hg, q1, List.cons_append, List.nil_append]
          | false =>
            rw [h2, Bool.false_or] at h1
            rw [h2] at q1
            rw [h1] at q2
            simp -implicitDefEqProofs (maxSteps := 1000000) (disch := omega) only [↓Int.reduceLT, ↓Int.reduceLE, ↓Int.reduceEq, ↓Nat.reduceEqDiff, Nat.reduceBEq, ↓reduceIte, St.toRS, restrict, initEnv, plainArgs, reduceCtorEq, Nat.reduceEqDiff, Nat.reduceAdd, Nat.reduceMul, Int.reduceLT, Int.reduceLE, Int.reduceEq, Int.reduceNeg, Int.reduceAdd, Int.reduceToNat, Int.reduceNe, Nat.reduceSub, Int.reducePow, Int.reduceMul, vb0, vb1, vb2, vb3, vb4, vb5, vb6, vb7, l_ref4_Split_4, nl_st, hg, q1, q2, List.cons_append, List.nil_append]
        simp only [if_true]
        rw [X_loop, hr, show k + (wl (t.drop (k + 1)) + 1) = k + 1 + wl (t.drop (k + 1)) by omega]
        exact ih (k + 1) (by omega) (by omega)
    · obtain rfl : k = t.length := by omega
      rw [List.drop_length, wl]
      refine loop_exit ?_ (by simp)
      simp -implicitDefEqProofs (maxSteps := 1000000) (disch := omega) only [↓Int.reduceLT, ↓Int.reduceLE, ↓Int.reduceEq, ↓Nat.reduceEqDiff, Nat.reduceBEq, ↓reduceIte, St.toRS, restrict, initEnv, plainArgs, reduceCtorEq, Nat.reduceEqDiff, Nat.reduceAdd, Nat.reduceMul, Int.reduceLT, Int.reduceLE, Int.reduceEq, Int.reduceNeg, Int.reduceAdd, Int.reduceToNat, Int.reduceNe, Nat.reduceSub, Int.reducePow, Int.reduceMul, vb0, vb1, vb2, vb3, vb4, vb5, vb6, vb7, l_ref4_Split_4, nl_st, Nat.add_zero, List.cons_append, List.nil_append]

theorem rs_name (t : List UInt8) (i j : Nat) (p q : Nat × Nat) (out : List D) (ex : List (Nat × V)) (ht : t.length ≤ 65536) (hj : j ≤ t.length) (ho : out.length ≤ 65536) (hq : q.1 ≤ 131072 ∧ q.2 ≤ 131072) (hsp : C (M m) 21 [.d (.str t), .d (.int .i64 i)] = some (.tup [.int .i64 j, .bool true])) (hto : C (M m) 22 [.d (.str t), .d (.agg [.int .i64 i, .int .i64 p.1, .int .i64 p.2]), .d (.int .i64 j)] = some (.d (.agg [.int .i64 j, .int .i64 q.1, .int .i64 q.2]))) (c : UInt8) (hjl : j < t.length) (hg : t[j]? = some c) (h : isLetter c.toNat = true) (q' : Nat × Nat) (hto2 : C (M m) 22 [.d (.str t), .d (.agg [.int .i64 j, .int .i64 q.1, .int .i64 q.2]), .d (.int .i64 (j + wl (t.drop j) : Nat))] = some (.d (.agg [.int .i64 (j + wl (t.drop j) : Nat), .int .i64 q'.1, .int .i64 q'.2]))) :
    X (M m) l_ref4_Split_0 (rs_st t i p out ex) = some (.norm, rs_st t (j + wl (t.drop j)) q' (out ++ [wdD ⟨1, (t.drop j).take (wl (t.drop j)), 0, 0, [], q.1, q.2⟩]) []) := by
  have q1 := rletter_spec (m := m) c
  rw [h] at q1
  have hw := wl_le (t.drop j)
  simp only [List.length_drop] at hw
  have hl := nl_loop (m := m) t out [.int .i64 j, .int .i64 q.1, .int .i64 q.2] [.int .i64 1, .str [], .int .u64 0, .slice 0 [], .int .i64 q.1, .int .i64 q.2] j ht t.length (j + 1) (by omega) (by omega)
  have e1 : wl (t.drop j) = wl (t.drop (j + 1)) + 1 := by
    rw [List.drop_eq_getElem_cons hjl, wl]
    have : t[j] = c := by have := hg; simp only [List.getElem?_eq_getElem hjl, Option.some.injEq] at this; exact this
    rw [this, h]; rfl
  rw [show j + 1 + wl (t.drop (j + 1)) = j + wl (t.drop j) by omega] at hl
  have e2 : (t.take (j + wl (t.drop j))).drop j = (t.drop j).take (wl (t.drop j)) := by rw [List.drop_take, show j + wl (t.drop j) - j = wl (t.drop j) by omega]
  generalize wl (t.drop j) = L at *
  simp only [nl_st, List.cons_append, List.nil_append] at hl
  simp -implicitDefEqProofs (maxSteps := 1000000) (disch := omega) only [↓Int.reduceLT, ↓Int.reduceLE, ↓Int.reduceEq, ↓Nat.reduceEqDiff, Nat.reduceBEq, ↓reduceIte, St.toRS, restrict, initEnv, plainArgs, reduceCtorEq, Nat.reduceEqDiff, Nat.reduceAdd, Nat.reduceMul, Int.reduceLT, Int.reduceLE, Int.reduceEq, Int.reduceNeg, Int.reduceAdd, Int.reduceToNat, Int.reduceNe, Nat.reduceSub, Int.reducePow, Int.reduceMul, vb0, vb1, vb2, vb3, vb4, vb5, vb6, vb7, l_ref4_Split_0, rs_st, hsp, hto, fill, setAt, List.set_cons_succ, List.set_cons_zero, sub, List.getElem?_cons_zero, List.getElem?_cons_succ, List.drop_zero, List.take_succ_cons, List.take_zero, List.take_length, hg, q1, hl, hto2, e2, wdD, bytesD_nil]
theorem rs_number (t : List UInt8) (i j : Nat) (p q : Nat × Nat) (out : List D) (ex : List (Nat × V)) (ht : t.length ≤ 65536) (hj : j ≤ t.length) (ho : out.length ≤ 65536) (hq : q.1 ≤ 131072 ∧ q.2 ≤ 131072) (hsp : C (M m) 21 [.d (.str t), .d (.int .i64 i)] = some (.tup [.int .i64 j, .bool true])) (hto : C (M m) 22 [.d (.str t), .d (.agg [.int .i64 i, .int .i64 p.1, .int .i64 p.2]), .d (.int .i64 j)] = some (.d (.agg [.int .i64 j, .int .i64 q.1, .int .i64 q.2]))) (c : UInt8) (hjl : j < t.length) (hg : t[j]? = some c) (h1 : isLetter c.toNat = false) (h : isDigit c.toNat = true) (he : (numberL (t.drop j)).2.2 = 0) (q' : Nat × Nat) (hto2 : C (M m) 22 [.d (.str t), .d (.agg [.int .i64 j, .int .i64 q.1, .int .i64 q.2]), .d (.int .i64 (j + (numberL (t.drop j)).1 : Nat))] = some (.d (.agg [.int .i64 (j + (numberL (t.drop j)).1 : Nat), .int .i64 q'.1, .int .i64 q'.2]))) :
    X (M m) l_ref4_Split_0 (rs_st t i p out ex) = some (.norm, rs_st t (j + (numberL (t.drop j)).1) q' (out ++ [wdD ⟨2, (t.drop j).take ((numberL (t.drop j)).1), (numberL (t.drop j)).2.1, 0, [], q.1, q.2⟩]) []) := by
  have q1 := rletter_spec (m := m) c
  rw [h1] at q1
  have q2 := rdigit_spec (m := m) c
  rw [h] at q2
  have q3 := rnumber_spec (m := m) t j (by omega) hjl
  have hle := numberL_le (t.drop j)
  simp only [List.length_drop] at hle
  simp only [rnumberL, he, if_true] at q3
  generalize numberL (t.drop j) = x at *
  obtain ⟨L, n, e⟩ := x
  simp only at q3 hto2 hle he ⊢
  have e2 : (t.take (j + L)).drop j = (t.drop j).take L := by rw [List.drop_take, show j + L - j = L by omega]
  have e3 : (j : Int) + (L : Int) = ((j + L : Nat) : Int) := by omega
  rw [e3] at q3
  simp -implicitDefEqProofs (maxSteps := 1000000) (disch := omega) only [↓Int.reduceLT, ↓Int.reduceLE, ↓Int.reduceEq, ↓Nat.reduceEqDiff, Nat.reduceBEq, ↓reduceIte, St.toRS, restrict, initEnv, plainArgs, reduceCtorEq, Nat.reduceEqDiff, Nat.reduceAdd, Nat.reduceMul, Int.reduceLT, Int.reduceLE, Int.reduceEq, Int.reduceNeg, Int.reduceAdd, Int.reduceToNat, Int.reduceNe, Nat.reduceSub, Int.reducePow, Int.reduceMul, vb0, vb1, vb2, vb3, vb4, vb5, vb6, vb7, l_ref4_Split_0, rs_st, hsp, hto, fill, setAt, List.set_cons_succ, List.set_cons_zero, sub, List.getElem?_cons_zero, List.getElem?_cons_succ, List.drop_zero, List.take_succ_cons, List.take_zero, List.take_length, hg, q1, q2, q3, hto2, e2, wdD, bytesD_nil]
theorem rs_number_bad (t : List UInt8) (i j : Nat) (p q : Nat × Nat) (out : List D) (ex : List (Nat × V)) (ht : t.length ≤ 65536) (hj : j ≤ t.length) (ho : out.length ≤ 65536) (hq : q.1 ≤ 131072 ∧ q.2 ≤ 131072) (hsp : C (M m) 21 [.d (.str t), .d (.int .i64 i)] = some (.tup [.int .i64 j, .bool true])) (hto : C (M m) 22 [.d (.str t), .d (.agg [.int .i64 i, .int .i64 p.1, .int .i64 p.2]), .d (.int .i64 j)] = some (.d (.agg [.int .i64 j, .int .i64 q.1, .int .i64 q.2]))) (c : UInt8) (hjl : j < t.length) (hg : t[j]? = some c) (h1 : isLetter c.toNat = false) (h : isDigit c.toNat = true) (he : ¬ (numberL (t.drop j)).2.2 = 0) :
    X (M m) l_ref4_Split_0 (rs_st t i p out ex) = sp_ret [] (numberL (t.drop j)).2.2 q.1 q.2 := by
  have q1 := rletter_spec (m := m) c
  rw [h1] at q1
  have q2 := rdigit_spec (m := m) c
  rw [h] at q2
  have q3 := rnumber_spec (m := m) t j (by omega) hjl
  simp only [rnumberL, he, if_false] at q3
  generalize (numberL (t.drop j)).2.2 = e at *
  simp -implicitDefEqProofs (maxSteps := 1000000) (disch := omega) only [↓Int.reduceLT, ↓Int.reduceLE, ↓Int.reduceEq, ↓Nat.reduceEqDiff, Nat.reduceBEq, ↓reduceIte, St.toRS, restrict, initEnv, plainArgs, reduceCtorEq, Nat.reduceEqDiff, Nat.reduceAdd, Nat.reduceMul, Int.reduceLT, Int.reduceLE, Int.reduceEq, Int.reduceNeg, Int.reduceAdd, Int.reduceToNat, Int.reduceNe, Nat.reduceSub, Int.reducePow, Int.reduceMul, vb0, vb1, vb2, vb3, vb4, vb5, vb6, vb7, l_ref4_Split_0, rs_st, hsp, hto, fill, setAt, List.set_cons_succ, List.set_cons_zero, sub, List.getElem?_cons_zero, List.getElem?_cons_succ, List.drop_zero, List.take_succ_cons, List.take_zero, List.take_length, hg, q1, q2, q3, he, sp_ret]
theorem rs_text (t : List UInt8) (i j : Nat) (p q : Nat × Nat) (out : List D) (ex : List (Nat × V)) (ht : t.length ≤ 65536) (hj : j ≤ t.length) (ho : out.length ≤ 65536) (hq : q.1 ≤ 131072 ∧ q.2 ≤ 131072) (hsp : C (M m) 21 [.d (.str t), .d (.int .i64 i)] = some (.tup [.int .i64 j, .bool true])) (hto : C (M m) 22 [.d (.str t), .d (.agg [.int .i64 i, .int .i64 p.1, .int .i64 p.2]), .d (.int .i64 j)] = some (.d (.agg [.int .i64 j, .int .i64 q.1, .int .i64 q.2]))) (c : UInt8) (hjl : j < t.length) (hg : t[j]? = some c) (h1 : isLetter c.toNat = false) (h2 : isDigit c.toNat = false) (h : c.toNat = 34) (he : ¬ (quotedL (t.drop j)).1 = 0) (q' : Nat × Nat) (hto2 : C (M m) 22 [.d (.str t), .d (.agg [.int .i64 j, .int .i64 q.1, .int .i64 q.2]), .d (.int .i64 (j + (quotedL (t.drop j)).1 : Nat))] = some (.d (.agg [.int .i64 (j + (quotedL (t.drop j)).1 : Nat), .int .i64 q'.1, .int .i64 q'.2]))) :
    X (M m) l_ref4_Split_0 (rs_st t i p out ex) = some (.norm, rs_st t (j + (quotedL (t.drop j)).1) q' (out ++ [wdD ⟨3, (t.drop j).take ((quotedL (t.drop j)).1), 0, 1, (quotedL (t.drop j)).2, q.1, q.2⟩]) []) := by
  have q1 := rletter_spec (m := m) c
  rw [h1] at q1
  have q2 := rdigit_spec (m := m) c
  rw [h2] at q2
  have q3 := rquoted_spec (m := m) t j (by omega) hjl
  have hd1 : (t.drop j).drop 1 = t.drop (j + 1) := by rw [List.drop_drop]
  unfold quotedL at he hto2 ⊢
  rw [hd1] at he hto2 ⊢
  unfold rquotedL at q3
  cases hk : qs (t.drop (j + 1)) with
  | none => rw [hk] at he; exact absurd rfl he
  | some k =>
    rw [hk] at he hto2 q3
    have hkl := qs_lt _ _ (Nat.le_refl _) k hk
    simp only [List.length_drop] at hkl
    have q4 := runquote_spec (m := m) ((t.drop j).take (k + 2)) (by simp; omega)
    simp only [n_ref2_Unquote] at q4
    obtain ⟨r1, r2⟩ := runq_unq ((t.drop j).take (k + 2)) (by simp; omega)
    simp only at he hto2 q3 ⊢
    by_cases hu : (unquoteL ((t.drop j).take (k + 2))).2 = 0
    · rw [if_pos hu] at he hto2 ⊢
      simp only [r1, r2 hu, hu, decide_true] at q4
      have e2 : (t.take (j + (k + 2))).drop j = (t.drop j).take (k + 2) := by rw [List.drop_take, show j + (k + 2) - j = k + 2 by omega]
      rw [show j + k + 2 = j + (k + 2) by omega] at q3
      simp only at hto2 ⊢
      simp -implicitDefEqProofs (maxSteps := 1000000) (disch := omega) only [↓Int.reduceLT, ↓Int.reduceLE, ↓Int.reduceEq, ↓Nat.reduceEqDiff, Nat.reduceBEq, ↓reduceIte, St.toRS, restrict, initEnv, plainArgs, reduceCtorEq, Nat.reduceEqDiff, Nat.reduceAdd, Nat.reduceMul, Int.reduceLT, Int.reduceLE, Int.reduceEq, Int.reduceNeg, Int.reduceAdd, Int.reduceToNat, Int.reduceNe, Nat.reduceSub, Int.reducePow, Int.reduceMul, vb0, vb1, vb2, vb3, vb4, vb5, vb6, vb7, l_ref4_Split_0, rs_st, hsp, hto, fill, setAt, List.set_cons_succ, List.set_cons_zero, sub, List.getElem?_cons_zero, List.getElem?_cons_succ, List.drop_zero, List.take_succ_cons, List.take_zero, List.take_length, hg, q1, q2, q3, q4, hto2, e2, wdD]
    · rw [if_neg hu] at he; exact absurd rfl he
theorem rs_text_bad (t : List UInt8) (i j : Nat) (p q : Nat × Nat) (out : List D) (ex : List (Nat × V)) (ht : t.length ≤ 65536) (hj : j ≤ t.length) (ho : out.length ≤ 65536) (hq : q.1 ≤ 131072 ∧ q.2 ≤ 131072) (hsp : C (M m) 21 [.d (.str t), .d (.int .i64 i)] = some (.tup [.int .i64 j, .bool true])) (hto : C (M m) 22 [.d (.str t), .d (.agg [.int .i64 i, .int .i64 p.1, .int .i64 p.2]), .d (.int .i64 j)] = some (.d (.agg [.int .i64 j, .int .i64 q.1, .int .i64 q.2]))) (c : UInt8) (hjl : j < t.length) (hg : t[j]? = some c) (h1 : isLetter c.toNat = false) (h2 : isDigit c.toNat = false) (h : c.toNat = 34) (he : (quotedL (t.drop j)).1 = 0) :
    X (M m) l_ref4_Split_0 (rs_st t i p out ex) = sp_ret [] 11 q.1 q.2 := by
  have q1 := rletter_spec (m := m) c
  rw [h1] at q1
  have q2 := rdigit_spec (m := m) c
  rw [h2] at q2
  have q3 := rquoted_spec (m := m) t j (by omega) hjl
  have hd1 : (t.drop j).drop 1 = t.drop (j + 1) := by rw [List.drop_drop]
  unfold quotedL at he
  rw [hd1] at he
  unfold rquotedL at q3
  cases hk : qs (t.drop (j + 1)) with
  | none =>
    rw [hk] at q3
    simp -implicitDefEqProofs (maxSteps := 1000000) (disch := omega) only [↓Int.reduceLT, ↓Int.reduceLE, ↓Int.reduceEq, ↓Nat.reduceEqDiff, Nat.reduceBEq, ↓reduceIte, St.toRS, restrict, initEnv, plainArgs, reduceCtorEq, Nat.reduceEqDiff, Nat.reduceAdd, Nat.reduceMul, Int.reduceLT, Int.reduceLE, Int.reduceEq, Int.reduceNeg, Int.reduceAdd, Int.reduceToNat, Int.reduceNe, Nat.reduceSub, Int.reducePow, Int.reduceMul, vb0, vb1, vb2, vb3, vb4, vb5, vb6, vb7, l_ref4_Split_0, rs_st, hsp, hto, fill, setAt, List.set_cons_succ, List.set_cons_zero, sub, List.getElem?_cons_zero, List.getElem?_cons_succ, List.drop_zero, List.take_succ_cons, List.take_zero, List.take_length, hg, q1, q2, q3, sp_ret]
  | some k =>
    rw [hk] at he q3
    have hkl := qs_lt _ _ (Nat.le_refl _) k hk
    simp only [List.length_drop] at hkl
    have q4 := runquote_spec (m := m) ((t.drop j).take (k + 2)) (by simp; omega)
    simp only [n_ref2_Unquote] at q4
    obtain ⟨r1, r2⟩ := runq_unq ((t.drop j).take (k + 2)) (by simp; omega)
    simp only at he q3 ⊢
    by_cases hu : (unquoteL ((t.drop j).take (k + 2))).2 = 0
    · rw [if_pos hu] at he
      simp at he
    · rw [r1, decide_eq_false hu] at q4
      have e2 : (t.take (j + (k + 2))).drop j = (t.drop j).take (k + 2) := by rw [List.drop_take, show j + (k + 2) - j = k + 2 by omega]
      rw [show j + k + 2 = j + (k + 2) by omega] at q3
      simp -implicitDefEqProofs (maxSteps := 1000000) (disch := omega) only [↓Int.reduceLT, ↓Int.reduceLE, ↓Int.reduceEq, ↓Nat.reduceEqDiff, Nat.reduceBEq, ↓reduceIte, St.toRS, restrict, initEnv, plainArgs, reduceCtorEq, Nat.reduceEqDiff, Nat.reduceAdd, Nat.reduceMul, Int.reduceLT, Int.reduceLE, Int.reduceEq, Int.reduceNeg, Int.reduceAdd, Int.reduceToNat, Int.reduceNe, Nat.reduceSub, Int.reducePow, Int.reduceMul, vb0, vb1, vb2, vb3, vb4, vb5, vb6, vb7, l_ref4_Split_0, rs_st, hsp, hto, fill, setAt, List.set_cons_succ, List.set_cons_zero, sub, List.getElem?_cons_zero, List.getElem?_cons_succ, List.drop_zero, List.take_succ_cons, List.take_zero, List.take_length, hg, q1, q2, q3, q4, e2, sp_ret]
theorem rs_sign (t : List UInt8) (i j : Nat) (p q : Nat × Nat) (out : List D) (ex : List (Nat × V)) (ht : t.length ≤ 65536) (hj : j ≤ t.length) (ho : out.length ≤ 65536) (hq : q.1 ≤ 131072 ∧ q.2 ≤ 131072) (hsp : C (M m) 21 [.d (.str t), .d (.int .i64 i)] = some (.tup [.int .i64 j, .bool true])) (hto : C (M m) 22 [.d (.str t), .d (.agg [.int .i64 i, .int .i64 p.1, .int .i64 p.2]), .d (.int .i64 j)] = some (.d (.agg [.int .i64 j, .int .i64 q.1, .int .i64 q.2]))) (c : UInt8) (hjl : j < t.length) (hg : t[j]? = some c) (h1 : isLetter c.toNat = false) (h2 : isDigit c.toNat = false) (h3 : c.toNat ≠ 34) (h : isSign c.toNat = true) (q' : Nat × Nat) (hto2 : C (M m) 22 [.d (.str t), .d (.agg [.int .i64 j, .int .i64 q.1, .int .i64 q.2]), .d (.int .i64 (j + 1 : Nat))] = some (.d (.agg [.int .i64 (j + 1 : Nat), .int .i64 q'.1, .int .i64 q'.2]))) :
    X (M m) l_ref4_Split_0 (rs_st t i p out ex) = some (.norm, rs_st t (j + 1) q' (out ++ [wdD ⟨4, (t.drop j).take (1), 0, 0, [], q.1, q.2⟩]) []) := by
  have q1 := rletter_spec (m := m) c
  rw [h1] at q1
  have q2 := rdigit_spec (m := m) c
  rw [h2] at q2
  have q3 := rsign_spec (m := m) c
  rw [h] at q3
  have e2 : (t.take (j + 1)).drop j = (t.drop j).take 1 := by rw [List.drop_take, show j + 1 - j = 1 by omega]
  generalize hT : (t.drop j).take 1 = T at *
  simp -implicitDefEqProofs (maxSteps := 1000000) (disch := omega) only [↓Int.reduceLT, ↓Int.reduceLE, ↓Int.reduceEq, ↓Nat.reduceEqDiff, Nat.reduceBEq, ↓reduceIte, St.toRS, restrict, initEnv, plainArgs, reduceCtorEq, Nat.reduceEqDiff, Nat.reduceAdd, Nat.reduceMul, Int.reduceLT, Int.reduceLE, Int.reduceEq, Int.reduceNeg, Int.reduceAdd, Int.reduceToNat, Int.reduceNe, Nat.reduceSub, Int.reducePow, Int.reduceMul, vb0, vb1, vb2, vb3, vb4, vb5, vb6, vb7, l_ref4_Split_0, rs_st, hsp, hto, fill, setAt, List.set_cons_succ, List.set_cons_zero, sub, List.getElem?_cons_zero, List.getElem?_cons_succ, List.drop_zero, List.take_succ_cons, List.take_zero, List.take_length, hg, q1, q2, q3, hto2, e2, wdD, bytesD_nil]
theorem rs_bad (t : List UInt8) (i j : Nat) (p q : Nat × Nat) (out : List D) (ex : List (Nat × V)) (ht : t.length ≤ 65536) (hj : j ≤ t.length) (ho : out.length ≤ 65536) (hq : q.1 ≤ 131072 ∧ q.2 ≤ 131072) (hsp : C (M m) 21 [.d (.str t), .d (.int .i64 i)] = some (.tup [.int .i64 j, .bool true])) (hto : C (M m) 22 [.d (.str t), .d (.agg [.int .i64 i, .int .i64 p.1, .int .i64 p.2]), .d (.int .i64 j)] = some (.d (.agg [.int .i64 j, .int .i64 q.1, .int .i64 q.2]))) (c : UInt8) (hjl : j < t.length) (hg : t[j]? = some c) (h1 : isLetter c.toNat = false) (h2 : isDigit c.toNat = false) (h3 : c.toNat ≠ 34) (h : isSign c.toNat = false) :
    X (M m) l_ref4_Split_0 (rs_st t i p out ex) = sp_ret [] 11 q.1 q.2 := by
  have q1 := rletter_spec (m := m) c
  rw [h1] at q1
  have q2 := rdigit_spec (m := m) c
  rw [h2] at q2
  have q3 := rsign_spec (m := m) c
  rw [h] at q3
  simp -implicitDefEqProofs (maxSteps := 1000000) (disch := omega) only [↓Int.reduceLT, ↓Int.reduceLE, ↓Int.reduceEq, ↓Nat.reduceEqDiff, Nat.reduceBEq, ↓reduceIte, St.toRS, restrict, initEnv, plainArgs, reduceCtorEq, Nat.reduceEqDiff, Nat.reduceAdd, Nat.reduceMul, Int.reduceLT, Int.reduceLE, Int.reduceEq, Int.reduceNeg, Int.reduceAdd, Int.reduceToNat, Int.reduceNe, Nat.reduceSub, Int.reducePow, Int.reduceMul, vb0, vb1, vb2, vb3, vb4, vb5, vb6, vb7, l_ref4_Split_0, rs_st, hsp, hto, fill, setAt, List.set_cons_succ, List.set_cons_zero, sub, List.getElem?_cons_zero, List.getElem?_cons_succ, List.drop_zero, List.take_succ_cons, List.take_zero, List.take_length, hg, q1, q2, q3, sp_ret]
end Go.Proofs.Ytladdhfkmnhmfaa
