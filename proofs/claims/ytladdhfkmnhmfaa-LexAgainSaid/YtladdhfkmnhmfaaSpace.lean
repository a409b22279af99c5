/-
  The reference's places and blanks: over data.
-/
import Derived.Test.YtladdhfkmnhmfaaSplit2
set_option linter.unusedVariables false
set_option linter.unusedSimpArgs false
set_option maxRecDepth 100000
set_option maxHeartbeats 8000000
namespace Go.Proofs.Ytladdhfkmnhmfaa
open Go.Vi
variable {m : Int}

/-! ### Places -/
theorem adv_le : ∀ (a : List UInt8) (p : Nat × Nat), (adv a p).1 ≤ p.1 + a.length ∧ (adv a p).2 ≤ p.2 + a.length + 1
  | [], p => by simp [adv]
  | c :: a, p => by
    simp only [adv, List.foldl_cons]
    split
    · have := adv_le a (p.1 + 1, 1)
      simp only [adv, List.length_cons] at this ⊢
      omega
    · have := adv_le a (p.1, p.2 + 1)
      simp only [adv, List.length_cons] at this ⊢
      omega
def to_st (t : List UInt8) (i0 i k : Nat) (p : Nat × Nat) : St :=
  { env := [(0, .d (.str t)), (2, .d (.int .i64 i)), (4, .lref 4 0), (6, .lref 6 0), (6, .lref 6 0), (7, .d (.int .i64 k))],
    bx := [(4, [.int .i64 i0, .int .i64 p.1, .int .i64 p.2]), (6, [.int .i64 0, .int .i64 0, .int .i64 0]), (6, [.int .i64 0, .int .i64 0, .int .i64 0])] }
def to_end (t : List UInt8) (i0 i k : Nat) (p : Nat × Nat) : St :=
  { env := [(0, .d (.str t)), (2, .d (.int .i64 i)), (4, .lref 4 0), (6, .lref 6 0), (6, .lref 6 0), (7, .d (.int .i64 k)), (12, .d (.bool false))],
    bx := [(4, [.int .i64 i0, .int .i64 p.1, .int .i64 p.2]), (6, [.int .i64 0, .int .i64 0, .int .i64 0]), (6, [.int .i64 0, .int .i64 0, .int .i64 0])] }
theorem to_loop (t : List UInt8) (i0 n : Nat) (p : Nat × Nat) (ht : t.length ≤ 65536) (h : i0 + n ≤ t.length) (h1 : p.1 ≤ 65537) (h2 : p.2 ≤ 65537) :
    X (M m) (.loop l_ref4_to_2) (to_st t i0 (i0 + n) i0 p) = some (.exit 0, to_end t i0 (i0 + n) (i0 + n) (adv ((t.drop i0).take n) p)) := by
  refine Go.Vi.loop_to (M := M m) (b := l_ref4_to_2) (inv := fun j => to_st t i0 (i0 + n) (i0 + j) (adv ((t.drop i0).take j) p)) (n := n) (fun j hj => ?_) ?_ 0 (by omega)
  · have hg : t[i0 + j]? = some t[i0 + j] := by simp [show i0 + j < t.length by omega]
    have hg' : (t.drop i0)[j]? = some t[i0 + j] := by rw [List.getElem?_drop, hg]
    have hle := adv_le ((t.drop i0).take j) p
    have hln : ((t.drop i0).take j).length ≤ 65536 := by simp; omega
    simp only [List.take_add_one, hg', Option.toList_some, adv_append]
    generalize adv ((t.drop i0).take j) p = q at *
    generalize t[i0 + j] = c at *
    have hc := c.toNat_lt
    by_cases h10 : c.toNat = 10
    · have e : adv [c] q = (q.1 + 1, 1) := by simp [adv, h10]
      rw [e]
      simp -implicitDefEqProofs (maxSteps := 1000000) (disch := omega) only [↓Int.reduceLT, ↓Int.reduceLE, ↓Int.reduceEq, ↓Nat.reduceEqDiff, Nat.reduceBEq, ↓reduceIte, St.toRS, restrict, initEnv, plainArgs, reduceCtorEq, Nat.reduceEqDiff, Nat.reduceAdd, Nat.reduceMul, Int.reduceLT, Int.reduceLE, Int.reduceEq, Int.reduceNeg, Int.reduceAdd, Int.reduceToNat, Int.reduceNe, Nat.reduceSub, Int.reducePow, Int.reduceMul, vb0, vb1, vb2, vb3, vb4, vb5, vb6, vb7, l_ref4_to_2, to_st, hg, setAt, List.set_cons_succ, List.set_cons_zero, sub, List.getElem?_cons_zero, List.getElem?_cons_succ, Nat.add_assoc]
    · have e : adv [c] q = (q.1, q.2 + 1) := by simp [adv, h10]
      rw [e]
      simp -implicitDefEqProofs (maxSteps := 1000000) (disch := omega) only [↓Int.reduceLT, ↓Int.reduceLE, ↓Int.reduceEq, ↓Nat.reduceEqDiff, Nat.reduceBEq, ↓reduceIte, St.toRS, restrict, initEnv, plainArgs, reduceCtorEq, Nat.reduceEqDiff, Nat.reduceAdd, Nat.reduceMul, Int.reduceLT, Int.reduceLE, Int.reduceEq, Int.reduceNeg, Int.reduceAdd, Int.reduceToNat, Int.reduceNe, Nat.reduceSub, Int.reducePow, Int.reduceMul, vb0, vb1, vb2, vb3, vb4, vb5, vb6, vb7, l_ref4_to_2, to_st, hg, setAt, List.set_cons_succ, List.set_cons_zero, sub, List.getElem?_cons_zero, List.getElem?_cons_succ, Nat.add_assoc]
  · refine loop_exit ?_ (by simp)
    simp -implicitDefEqProofs (maxSteps := 1000000) (disch := omega) only [↓Int.reduceLT, ↓Int.reduceLE, ↓Int.reduceEq, ↓Nat.reduceEqDiff, Nat.reduceBEq, ↓reduceIte, St.toRS, restrict, initEnv, plainArgs, reduceCtorEq, Nat.reduceEqDiff, Nat.reduceAdd, Nat.reduceMul, Int.reduceLT, Int.reduceLE, Int.reduceEq, Int.reduceNeg, Int.reduceAdd, Int.reduceToNat, Int.reduceNe, Nat.reduceSub, Int.reducePow, Int.reduceMul, vb0, vb1, vb2, vb3, vb4, vb5, vb6, vb7, l_ref4_to_2, to_st, to_end]
theorem to_spec (t : List UInt8) (i0 n : Nat) (p : Nat × Nat) (ht : t.length ≤ 65536) (h : i0 + n ≤ t.length) (h1 : p.1 ≤ 65537) (h2 : p.2 ≤ 65537) :
    C (M m) 22 [.d (.str t), .d (.agg [.int .i64 i0, .int .i64 p.1, .int .i64 p.2]), .d (.int .i64 (i0 + n : Nat))] = some (.d (.agg [.int .i64 (i0 + n : Nat), .int .i64 (adv ((t.drop i0).take n) p).1, .int .i64 (adv ((t.drop i0).take n) p).2])) := by
  rw [c_fn (sf := f_ref4_to) rfl rfl ⟨rfl, rfl⟩]
  have hl := to_loop (m := m) t i0 n p ht h h1 h2
  simp only [to_st, to_end] at hl
  simp -implicitDefEqProofs (maxSteps := 1000000) (disch := omega) only [↓Int.reduceLT, ↓Int.reduceLE, ↓Int.reduceEq, ↓Nat.reduceEqDiff, Nat.reduceBEq, ↓reduceIte, St.toRS, restrict, initEnv, plainArgs, reduceCtorEq, Nat.reduceEqDiff, Nat.reduceAdd, Nat.reduceMul, Int.reduceLT, Int.reduceLE, Int.reduceEq, Int.reduceNeg, Int.reduceAdd, Int.reduceToNat, Int.reduceNe, Nat.reduceSub, Int.reducePow, Int.reduceMul, vb0, vb1, vb2, vb3, vb4, vb5, vb6, vb7, f_ref4_to, hl, setAt, List.set_cons_succ, List.set_cons_zero, sub, List.getElem?_cons_zero, List.getElem?_cons_succ, List.drop_zero, List.take_succ_cons, List.take_zero]

/-! ### Blanks -/
/-- How many bytes of blanks and comments stand ahead; false: the last comment has no end. -/
def spaceF : Nat → List UInt8 → Nat × Bool
  | 0, _ => (0, true)
  | f + 1, r => match tok r with
    | .blank k => (k + (spaceF f (r.drop k)).1, (spaceF f (r.drop k)).2)
    | _ => (0, decide (¬ r.take 2 = [47, 42]))
def sc_st (t : List UInt8) (i : Nat) (ex : List (Nat × V)) : St := { env := (0, .d (.str t)) :: (1, .d (.int .i64 i)) :: ex, bx := [] }
theorem s9_loop (t : List UInt8) (ht : t.length ≤ 65536) : ∀ (f k : Nat) (E : List (Nat × V)), get E 0 = some (.d (.str t)) → get E 7 = some (.d (.int .i64 k)) → k ≤ t.length → t.length - k ≤ f →
    ∃ ex, X (M m) (.loop l_ref4_space_9) { env := E, bx := [] } = some (.exit 2, { env := (0, .d (.str t)) :: (7, .d (.int .i64 (k + lnE (t.drop k) : Nat))) :: ex, bx := [] }) := by
  intro f
  induction f with
  | zero =>
    intro k E g0 g7 hk hf
    obtain rfl : k = t.length := by omega
    rw [List.drop_length, lnE, Nat.add_zero]
    refine ⟨[(71, .d (.bool false))], loop_exit ?_ (by simp)⟩
    simp -implicitDefEqProofs (maxSteps := 1000000) (disch := omega) only [↓Int.reduceLT, ↓Int.reduceLE, ↓Int.reduceEq, ↓Nat.reduceEqDiff, Nat.reduceBEq, ↓reduceIte, St.toRS, restrict, initEnv, plainArgs, reduceCtorEq, Nat.reduceEqDiff, Nat.reduceAdd, Nat.reduceMul, Int.reduceLT, Int.reduceLE, Int.reduceEq, Int.reduceNeg, Int.reduceAdd, Int.reduceToNat, Int.reduceNe, Nat.reduceSub, Int.reducePow, Int.reduceMul, vb0, vb1, vb2, vb3, vb4, vb5, vb6, vb7, l_ref4_space_9, g0, g7]
  | succ f ih =>
    intro k E g0 g7 hk hf
    rcases Nat.lt_or_ge k t.length with hlt | hge
    · have hg : t[k]? = some t[k] := by simp [hlt]
      rw [List.drop_eq_getElem_cons hlt, lnE]
      generalize t[k] = c at hg
      have hc := c.toNat_lt
      by_cases h : c.toNat = 10
      · rw [if_pos h, Nat.add_zero]
        refine ⟨[(71, .d (.bool false))], loop_exit ?_ (by simp)⟩
        simp -implicitDefEqProofs (maxSteps := 1000000) (disch := omega) only [↓Int.reduceLT, ↓Int.reduceLE, ↓Int.reduceEq, ↓Nat.reduceEqDiff, Nat.reduceBEq, ↓reduceIte, St.toRS, restrict, initEnv, plainArgs, reduceCtorEq, Nat.reduceEqDiff, Nat.reduceAdd, Nat.reduceMul, Int.reduceLT, Int.reduceLE, Int.reduceEq, Int.reduceNeg, Int.reduceAdd, Int.reduceToNat, Int.reduceNe, Nat.reduceSub, Int.reducePow, Int.reduceMul, vb0, vb1, vb2, vb3, vb4, vb5, vb6, vb7, l_ref4_space_9, hg, g0, g7]
      · rw [if_neg h]
        obtain ⟨ex, hx⟩ := ih (k + 1) [(0, .d (.str t)), (7, .d (.int .i64 (k + 1 : Nat)))] rfl rfl (by omega) (by omega)
        refine ⟨ex, ?_⟩
        have hr : X (M m) l_ref4_space_9 { env := E, bx := [] } = some (.norm, { env := [(0, .d (.str t)), (7, .d (.int .i64 (k + 1 : Nat)))], bx := [] }) := by
          simp -implicitDefEqProofs (maxSteps := 1000000) (disch := omega) only [↓Int.reduceLT, ↓Int.reduceLE, ↓Int.reduceEq, ↓Nat.reduceEqDiff, Nat.reduceBEq, ↓reduceIte, St.toRS, restrict, initEnv, plainArgs, reduceCtorEq, Nat.reduceEqDiff, Nat.reduceAdd, Nat.reduceMul, Int.reduceLT, Int.reduceLE, Int.reduceEq, Int.reduceNeg, Int.reduceAdd, Int.reduceToNat, Int.reduceNe, Nat.reduceSub, Int.reducePow, Int.reduceMul, vb0, vb1, vb2, vb3, vb4, vb5, vb6, vb7, l_ref4_space_9, hg, g0, g7]
        rw [X_loop, hr, show k + (lnE (t.drop (k + 1)) + 1) = k + 1 + lnE (t.drop (k + 1)) by omega]
        exact hx
    · obtain rfl : k = t.length := by omega
      rw [List.drop_length, lnE, Nat.add_zero]
      refine ⟨[(71, .d (.bool false))], loop_exit ?_ (by simp)⟩
      simp -implicitDefEqProofs (maxSteps := 1000000) (disch := omega) only [↓Int.reduceLT, ↓Int.reduceLE, ↓Int.reduceEq, ↓Nat.reduceEqDiff, Nat.reduceBEq, ↓reduceIte, St.toRS, restrict, initEnv, plainArgs, reduceCtorEq, Nat.reduceEqDiff, Nat.reduceAdd, Nat.reduceMul, Int.reduceLT, Int.reduceLE, Int.reduceEq, Int.reduceNeg, Int.reduceAdd, Int.reduceToNat, Int.reduceNe, Nat.reduceSub, Int.reducePow, Int.reduceMul, vb0, vb1, vb2, vb3, vb4, vb5, vb6, vb7, l_ref4_space_9, g0, g7]
/-- Where the loop over a comment ends. -/
def cEnd (t : List UInt8) (k j : Nat) : Prop := match ce (t.drop k) with
  | some x => j = k + x
  | none => t.length ≤ j + 1 ∧ j ≤ t.length
theorem s5_loop (t : List UInt8) (i : Nat) (ht : t.length ≤ 65536) : ∀ (f k : Nat) (e0 : List (Nat × V)), k ≤ t.length → t.length - k ≤ f →
    ∃ j ex, cEnd t k j ∧ X (M m) (.loop l_ref4_space_5) { env := [(0, .d (.str t)), (1, .d (.int .i64 i)), (7, .d (.int .i64 k))] ++ e0, bx := [] } = some (.exit 4, { env := (0, .d (.str t)) :: (1, .d (.int .i64 i)) :: (7, .d (.int .i64 (j : Nat))) :: ex, bx := [] }) := by
  intro f
  induction f with
  | zero =>
    intro k e0 hk hf
    obtain rfl : k = t.length := by omega
    refine ⟨t.length, [(92, .d (.bool false))], ?_, loop_exit ?_ (by simp)⟩
    · simp only [cEnd, List.drop_length, ce]; omega
    · simp -implicitDefEqProofs (maxSteps := 1000000) (disch := omega) only [↓Int.reduceLT, ↓Int.reduceLE, ↓Int.reduceEq, ↓Nat.reduceEqDiff, Nat.reduceBEq, ↓reduceIte, St.toRS, restrict, initEnv, plainArgs, reduceCtorEq, Nat.reduceEqDiff, Nat.reduceAdd, Nat.reduceMul, Int.reduceLT, Int.reduceLE, Int.reduceEq, Int.reduceNeg, Int.reduceAdd, Int.reduceToNat, Int.reduceNe, Nat.reduceSub, Int.reducePow, Int.reduceMul, vb0, vb1, vb2, vb3, vb4, vb5, vb6, vb7, List.cons_append, List.nil_append, l_ref4_space_5]
  | succ f ih =>
    intro k e0 hk hf
    rcases Nat.lt_or_ge (k + 1) t.length with hlt | hge
    · have hg : t[k]? = some t[k] := by simp [show k < t.length by omega]
      have hg1 : t[k + 1]? = some t[k + 1] := by simp [hlt]
      have hd : t.drop k = t[k] :: t[k + 1] :: t.drop (k + 2) := by rw [List.drop_eq_getElem_cons (show k < t.length by omega), List.drop_eq_getElem_cons hlt]
      have hd1 : t.drop (k + 1) = t[k + 1] :: t.drop (k + 2) := by rw [List.drop_eq_getElem_cons hlt]
      by_cases h : t[k].toNat = 42 ∧ t[k + 1].toNat = 47
      · refine ⟨k, [(92, .d (.bool false))], ?_, loop_exit ?_ (by simp)⟩
        · simp only [cEnd, hd, ce]; rw [if_pos h]; simp
        · obtain ⟨a, b⟩ := h
          generalize t[k] = c at *
          generalize t[k + 1] = d at *
          simp -implicitDefEqProofs (maxSteps := 1000000) (disch := omega) only [↓Int.reduceLT, ↓Int.reduceLE, ↓Int.reduceEq, ↓Nat.reduceEqDiff, Nat.reduceBEq, ↓reduceIte, St.toRS, restrict, initEnv, plainArgs, reduceCtorEq, Nat.reduceEqDiff, Nat.reduceAdd, Nat.reduceMul, Int.reduceLT, Int.reduceLE, Int.reduceEq, Int.reduceNeg, Int.reduceAdd, Int.reduceToNat, Int.reduceNe, Nat.reduceSub, Int.reducePow, Int.reduceMul, vb0, vb1, vb2, vb3, vb4, vb5, vb6, vb7, List.cons_append, List.nil_append, l_ref4_space_5, hg, hg1]
      · obtain ⟨j, ex, hj, hx⟩ := ih (k + 1) [] (by omega) (by omega)
        refine ⟨j, ex, ?_, ?_⟩
        · simp only [cEnd, hd, ce] at hj ⊢
          rw [if_neg h]
          rw [hd1] at hj
          cases hc : ce (t[k + 1] :: t.drop (k + 2)) with
          | none => rw [hc] at hj; exact hj
          | some x => rw [hc] at hj; simp only [Option.map_some] at hj ⊢; omega
        · have hr : X (M m) l_ref4_space_5 { env := [(0, .d (.str t)), (1, .d (.int .i64 i)), (7, .d (.int .i64 k))] ++ e0, bx := [] } = some (.norm, { env := [(0, .d (.str t)), (1, .d (.int .i64 i)), (7, .d (.int .i64 (k + 1 : Nat)))], bx := [] }) := by
            clear hd hd1 hj hx ih
            generalize t[k] = c at *
            generalize t[k + 1] = d at *
            have hc := c.toNat_lt
            have hc := d.toNat_lt
            by_cases h42 : c.toNat = 42
            · have h47 : d.toNat ≠ 47 := fun e => h ⟨h42, e⟩
              simp -implicitDefEqProofs (maxSteps := 1000000) (disch := omega) only [↓Int.reduceLT, ↓Int.reduceLE, ↓Int.reduceEq, ↓Nat.reduceEqDiff, Nat.reduceBEq, ↓reduceIte, St.toRS, restrict, initEnv, plainArgs, reduceCtorEq, Nat.reduceEqDiff, Nat.reduceAdd, Nat.reduceMul, Int.reduceLT, Int.reduceLE, Int.reduceEq, Int.reduceNeg, Int.reduceAdd, Int.reduceToNat, Int.reduceNe, Nat.reduceSub, Int.reducePow, Int.reduceMul, vb0, vb1, vb2, vb3, vb4, vb5, vb6, vb7, List.cons_append, List.nil_append, l_ref4_space_5, hg, hg1]
            · simp -implicitDefEqProofs (maxSteps := 1000000) (disch := omega) only [↓Int.reduceLT, ↓Int.reduceLE, ↓Int.reduceEq, ↓Nat.reduceEqDiff, Nat.reduceBEq, ↓reduceIte, St.toRS, restrict, initEnv, plainArgs, reduceCtorEq, Nat.reduceEqDiff, Nat.reduceAdd, Nat.reduceMul, Int.reduceLT, Int.reduceLE, Int.reduceEq, Int.reduceNeg, Int.reduceAdd, Int.reduceToNat, Int.reduceNe, Nat.reduceSub, Int.reducePow, Int.reduceMul, vb0, vb1, vb2, vb3, vb4, vb5, vb6, vb7, List.cons_append, List.nil_append, l_ref4_space_5, hg, hg1]
          rw [X_loop, hr]
          exact hx
    · refine ⟨k, [(92, .d (.bool false))], ?_, loop_exit ?_ (by simp)⟩
      · have : ce (t.drop k) = none := by
          have hl : (t.drop k).length ≤ 1 := by simp; omega
          match hx : t.drop k, hl with
          | [], _ => rfl
          | [_], _ => rfl
        simp only [cEnd, this]; omega
      · simp -implicitDefEqProofs (maxSteps := 1000000) (disch := omega) only [↓Int.reduceLT, ↓Int.reduceLE, ↓Int.reduceEq, ↓Nat.reduceEqDiff, Nat.reduceBEq, ↓reduceIte, St.toRS, restrict, initEnv, plainArgs, reduceCtorEq, Nat.reduceEqDiff, Nat.reduceAdd, Nat.reduceMul, Int.reduceLT, Int.reduceLE, Int.reduceEq, Int.reduceNeg, Int.reduceAdd, Int.reduceToNat, Int.reduceNe, Nat.reduceSub, Int.reducePow, Int.reduceMul, vb0, vb1, vb2, vb3, vb4, vb5, vb6, vb7, List.cons_append, List.nil_append, l_ref4_space_5]

theorem s_round (t : List UInt8) (i : Nat) (ex : List (Nat × V)) (ht : t.length ≤ 65536) (hi : i < t.length) :
    match tok (t.drop i) with
    | .blank k => ∃ ex', X (M m) l_ref4_space_1 (sc_st t i ex) = some (.norm, sc_st t (i + k) ex')
    | _ => X (M m) l_ref4_space_1 (sc_st t i ex) = some (.ret, { env := [(4, .d (.int .i64 i)), (5, .d (.bool (decide (¬ (t.drop i).take 2 = [47, 42]))))], bx := [] }) := by
  have hg : t[i]? = some t[i] := by simp [hi]
  have hd : t.drop i = t[i] :: t.drop (i + 1) := List.drop_eq_getElem_cons hi
  have hd2 : (t.drop i).drop 2 = t.drop (i + 2) := by rw [List.drop_drop]
  generalize hcv : t[i] = c at *
  have hc := c.toNat_lt
  by_cases n1 : c.toNat = 10 ∨ c.toNat = 32 ∨ c.toNat = 9 ∨ c.toNat = 13
  · have e : tok (t.drop i) = .blank 1 := by rw [hd, tok, if_pos n1]
    rw [e]
    refine ⟨[], ?_⟩
    rcases n1 with h | h | h | h
    · simp -implicitDefEqProofs (maxSteps := 1000000) (disch := omega) only [↓Int.reduceLT, ↓Int.reduceLE, ↓Int.reduceEq, ↓Nat.reduceEqDiff, Nat.reduceBEq, ↓reduceIte, St.toRS, restrict, initEnv, plainArgs, reduceCtorEq, Nat.reduceEqDiff, Nat.reduceAdd, Nat.reduceMul, Int.reduceLT, Int.reduceLE, Int.reduceEq, Int.reduceNeg, Int.reduceAdd, Int.reduceToNat, Int.reduceNe, Nat.reduceSub, Int.reducePow, Int.reduceMul, vb0, vb1, vb2, vb3, vb4, vb5, vb6, vb7, l_ref4_space_1, sc_st, hg]
    · simp -implicitDefEqProofs (maxSteps := 1000000) (disch := omega) only [↓Int.reduceLT, ↓Int.reduceLE, ↓Int.reduceEq, ↓Nat.reduceEqDiff, Nat.reduceBEq, ↓reduceIte, St.toRS, restrict, initEnv, plainArgs, reduceCtorEq, Nat.reduceEqDiff, Nat.reduceAdd, Nat.reduceMul, Int.reduceLT, Int.reduceLE, Int.reduceEq, Int.reduceNeg, Int.reduceAdd, Int.reduceToNat, Int.reduceNe, Nat.reduceSub, Int.reducePow, Int.reduceMul, vb0, vb1, vb2, vb3, vb4, vb5, vb6, vb7, l_ref4_space_1, sc_st, hg]
    · simp -implicitDefEqProofs (maxSteps := 1000000) (disch := omega) only [↓Int.reduceLT, ↓Int.reduceLE, ↓Int.reduceEq, ↓Nat.reduceEqDiff, Nat.reduceBEq, ↓reduceIte, St.toRS, restrict, initEnv, plainArgs, reduceCtorEq, Nat.reduceEqDiff, Nat.reduceAdd, Nat.reduceMul, Int.reduceLT, Int.reduceLE, Int.reduceEq, Int.reduceNeg, Int.reduceAdd, Int.reduceToNat, Int.reduceNe, Nat.reduceSub, Int.reducePow, Int.reduceMul, vb0, vb1, vb2, vb3, vb4, vb5, vb6, vb7, l_ref4_space_1, sc_st, hg]
    · simp -implicitDefEqProofs (maxSteps := 1000000) (disch := omega) only [↓Int.reduceLT, ↓Int.reduceLE, ↓Int.reduceEq, ↓Nat.reduceEqDiff, Nat.reduceBEq, ↓reduceIte, St.toRS, restrict, initEnv, plainArgs, reduceCtorEq, Nat.reduceEqDiff, Nat.reduceAdd, Nat.reduceMul, Int.reduceLT, Int.reduceLE, Int.reduceEq, Int.reduceNeg, Int.reduceAdd, Int.reduceToNat, Int.reduceNe, Nat.reduceSub, Int.reducePow, Int.reduceMul, vb0, vb1, vb2, vb3, vb4, vb5, vb6, vb7, l_ref4_space_1, sc_st, hg]
  by_cases n2 : (t.drop i).take 2 = [47, 47]
  · have e : tok (t.drop i) = .blank (lnE (t.drop i)) := by rw [hd] at n2 ⊢; rw [tok, if_neg n1, if_pos n2]
    rw [e]
    obtain ⟨rfl, h2⟩ := twoB t i c hi hg 47 47 n2
    have hd1 : t.drop (i + 1) = 47 :: t.drop (i + 2) := by
      rw [List.drop_eq_getElem_cons (show i + 1 < t.length by omega)] at hd ⊢
      rw [hd] at n2
      simp only [List.take_succ_cons, List.take_zero, List.cons.injEq, and_true, true_and] at n2
      rw [n2]
    have hg1 : t[i + 1]? = some 47 := by
      have := congrArg (fun l => l[0]?) hd1
      simpa using this
    have hln : i + 2 + lnE (t.drop (i + 2)) = i + lnE (t.drop i) := by
      rw [hd, hd1]
      simp only [lnE, show (UInt8.toNat 47) = 47 from rfl, show ¬ (47 = 10) by omega, if_false]; omega
    obtain ⟨ex', hx⟩ := s9_loop (m := m) t ht t.length (i + 2) [(0, .d (.str t)), (1, .d (.int .i64 i)), (7, .d (.int .i64 (i + 2 : Nat))), (61, .d (.bool true))] rfl rfl (by omega) (by omega)
    rw [hln] at hx
    have c47 : ((UInt8.toNat 47 : Nat) : Int) = 47 := rfl
    refine ⟨[], ?_⟩
    simp -implicitDefEqProofs (maxSteps := 1000000) (disch := omega) only [↓Int.reduceLT, ↓Int.reduceLE, ↓Int.reduceEq, ↓Nat.reduceEqDiff, Nat.reduceBEq, ↓reduceIte, St.toRS, restrict, initEnv, plainArgs, reduceCtorEq, Nat.reduceEqDiff, Nat.reduceAdd, Nat.reduceMul, Int.reduceLT, Int.reduceLE, Int.reduceEq, Int.reduceNeg, Int.reduceAdd, Int.reduceToNat, Int.reduceNe, Nat.reduceSub, Int.reducePow, Int.reduceMul, vb0, vb1, vb2, vb3, vb4, vb5, vb6, vb7, l_ref4_space_1, sc_st, hg, hg1, c47, hx]
  by_cases n3 : (t.drop i).take 2 = [47, 42]
  · obtain ⟨rfl, h2⟩ := twoB t i c hi hg 47 42 n3
    have hd1 : t.drop (i + 1) = 42 :: t.drop (i + 2) := by
      have n3' := n3
      rw [List.drop_eq_getElem_cons (show i + 1 < t.length by omega)] at hd ⊢
      rw [hd] at n3'
      simp only [List.take_succ_cons, List.take_zero, List.cons.injEq, and_true, true_and] at n3'
      rw [n3']
    have hg1 : t[i + 1]? = some 42 := by
      have := congrArg (fun l => l[0]?) hd1
      simpa using this
    have c47 : ((UInt8.toNat 47 : Nat) : Int) = 47 := rfl
    have c42 : ((UInt8.toNat 42 : Nat) : Int) = 42 := rfl
    obtain ⟨j, ex', hj, hx⟩ := s5_loop (m := m) t i ht t.length (i + 2) [(61, .d (.bool false))] (by omega) (by omega)
    simp only [cEnd] at hj
    simp only [List.cons_append, List.nil_append] at hx
    cases hk : ce (t.drop (i + 2)) with
    | none =>
      have e : tok (t.drop i) = .fault 11 := by
        rw [← hd2] at hk
        rw [hd] at n2 n3 hk ⊢
        rw [tok, if_neg n1, if_neg n2, if_pos n3, hk]
      rw [e]
      rw [hk] at hj
      simp only at hj ⊢
      have e2 : decide (¬ (t.drop i).take 2 = [47, 42]) = false := by simp [n3]
      rw [e2]
      simp -implicitDefEqProofs (maxSteps := 1000000) (disch := omega) only [↓Int.reduceLT, ↓Int.reduceLE, ↓Int.reduceEq, ↓Nat.reduceEqDiff, Nat.reduceBEq, ↓reduceIte, St.toRS, restrict, initEnv, plainArgs, reduceCtorEq, Nat.reduceEqDiff, Nat.reduceAdd, Nat.reduceMul, Int.reduceLT, Int.reduceLE, Int.reduceEq, Int.reduceNeg, Int.reduceAdd, Int.reduceToNat, Int.reduceNe, Nat.reduceSub, Int.reducePow, Int.reduceMul, vb0, vb1, vb2, vb3, vb4, vb5, vb6, vb7, l_ref4_space_1, sc_st, hg, hg1, c47, c42, hx]
    | some k =>
      have e : tok (t.drop i) = .blank (k + 4) := by
        rw [← hd2] at hk
        rw [hd] at n2 n3 hk ⊢
        rw [tok, if_neg n1, if_neg n2, if_pos n3, hk]
      rw [e]
      rw [hk] at hj
      simp only at hj ⊢
      subst hj
      have hlt := ce_lt _ _ hk
      simp only [List.length_drop] at hlt
      refine ⟨[], ?_⟩
      have e3 : i + 2 + k + 2 = i + (k + 4) := by omega
      simp -implicitDefEqProofs (maxSteps := 1000000) (disch := omega) only [↓Int.reduceLT, ↓Int.reduceLE, ↓Int.reduceEq, ↓Nat.reduceEqDiff, Nat.reduceBEq, ↓reduceIte, St.toRS, restrict, initEnv, plainArgs, reduceCtorEq, Nat.reduceEqDiff, Nat.reduceAdd, Nat.reduceMul, Int.reduceLT, Int.reduceLE, Int.reduceEq, Int.reduceNeg, Int.reduceAdd, Int.reduceToNat, Int.reduceNe, Nat.reduceSub, Int.reducePow, Int.reduceMul, vb0, vb1, vb2, vb3, vb4, vb5, vb6, vb7, l_ref4_space_1, sc_st, hg, hg1, c47, c42, hx, e3]
  have hno : ∀ k, tok (t.drop i) ≠ .blank k := by
    intro k hk
    rw [hd] at n2 n3 hk
    rw [tok, if_neg n1, if_neg n2, if_neg n3] at hk
    split at hk
    · cases hk
    split at hk
    · split at hk <;> cases hk
    split at hk
    · split at hk <;> cases hk
    split at hk <;> cases hk
  have e2 : decide (¬ (t.drop i).take 2 = [47, 42]) = true := by simp [n3]
  rw [e2]
  have fin : X (M m) l_ref4_space_1 (sc_st t i ex) = some (.ret, { env := [(4, .d (.int .i64 i)), (5, .d (.bool true))], bx := [] }) := by
    by_cases h47 : c.toNat = 47
    · rcases Nat.lt_or_ge (i + 1) t.length with h2 | h2
      · have hg1 : t[i + 1]? = some t[i + 1] := by simp [h2]
        have hdd : (t.drop i).take 2 = [47, t[i + 1]] := by
          rw [hd, List.drop_eq_getElem_cons h2]
          have : c = 47 := UInt8.toNat_inj.1 h47
          simp only [this, List.take_succ_cons, List.take_zero]
        have y1 : t[i + 1].toNat ≠ 47 := by
          intro hy; apply n2; rw [hdd]
          have : t[i + 1] = 47 := UInt8.toNat_inj.1 hy
          rw [this]
        have y2 : t[i + 1].toNat ≠ 42 := by
          intro hy; apply n3; rw [hdd]
          have : t[i + 1] = 42 := UInt8.toNat_inj.1 hy
          rw [this]
        clear hdd
        generalize t[i + 1] = d at *
        have hdl := d.toNat_lt
        simp -implicitDefEqProofs (maxSteps := 1000000) (disch := omega) only [↓Int.reduceLT, ↓Int.reduceLE, ↓Int.reduceEq, ↓Nat.reduceEqDiff, Nat.reduceBEq, ↓reduceIte, St.toRS, restrict, initEnv, plainArgs, reduceCtorEq, Nat.reduceEqDiff, Nat.reduceAdd, Nat.reduceMul, Int.reduceLT, Int.reduceLE, Int.reduceEq, Int.reduceNeg, Int.reduceAdd, Int.reduceToNat, Int.reduceNe, Nat.reduceSub, Int.reducePow, Int.reduceMul, vb0, vb1, vb2, vb3, vb4, vb5, vb6, vb7, l_ref4_space_1, sc_st, hg, hg1]
      · simp -implicitDefEqProofs (maxSteps := 1000000) (disch := omega) only [↓Int.reduceLT, ↓Int.reduceLE, ↓Int.reduceEq, ↓Nat.reduceEqDiff, Nat.reduceBEq, ↓reduceIte, St.toRS, restrict, initEnv, plainArgs, reduceCtorEq, Nat.reduceEqDiff, Nat.reduceAdd, Nat.reduceMul, Int.reduceLT, Int.reduceLE, Int.reduceEq, Int.reduceNeg, Int.reduceAdd, Int.reduceToNat, Int.reduceNe, Nat.reduceSub, Int.reducePow, Int.reduceMul, vb0, vb1, vb2, vb3, vb4, vb5, vb6, vb7, l_ref4_space_1, sc_st, hg]
    · simp -implicitDefEqProofs (maxSteps := 1000000) (disch := omega) only [↓Int.reduceLT, ↓Int.reduceLE, ↓Int.reduceEq, ↓Nat.reduceEqDiff, Nat.reduceBEq, ↓reduceIte, St.toRS, restrict, initEnv, plainArgs, reduceCtorEq, Nat.reduceEqDiff, Nat.reduceAdd, Nat.reduceMul, Int.reduceLT, Int.reduceLE, Int.reduceEq, Int.reduceNeg, Int.reduceAdd, Int.reduceToNat, Int.reduceNe, Nat.reduceSub, Int.reducePow, Int.reduceMul, vb0, vb1, vb2, vb3, vb4, vb5, vb6, vb7, l_ref4_space_1, sc_st, hg]
  cases hk : tok (t.drop i) with
  | blank k => exact absurd hk (hno k)
  | done => exact fin
  | fault e => exact fin
  | word a b c d e => exact fin

theorem space_loop (t : List UInt8) (ht : t.length ≤ 65536) : ∀ (f i : Nat) (ex : List (Nat × V)), i ≤ t.length → t.length - i < f →
    (∃ st, X (M m) (.block 0 (.loop l_ref4_space_1)) (sc_st t i ex) = some (.ret, st) ∧ st = { env := [(4, .d (.int .i64 (i + (spaceF f (t.drop i)).1 : Nat))), (5, .d (.bool (spaceF f (t.drop i)).2))], bx := [] }) ∨
    (∃ ex', X (M m) (.block 0 (.loop l_ref4_space_1)) (sc_st t i ex) = some (.norm, sc_st t (i + (spaceF f (t.drop i)).1) ex') ∧ (spaceF f (t.drop i)).2 = true) := by
  intro f
  induction f with
  | zero => intro i ex _ h; omega
  | succ f ih =>
    intro i ex hi hf
    rcases Nat.lt_or_ge i t.length with hlt | hge
    · have hr := s_round (m := m) t i ex ht hlt
      cases hk : tok (t.drop i) with
      | blank k =>
        rw [hk] at hr
        obtain ⟨ex', hx⟩ := hr
        have hb := tok_blank hk
        simp only [List.length_drop] at hb
        have := ih (i + k) ex' (by omega) (by omega)
        simp only [spaceF, hk, List.drop_drop, ← Nat.add_assoc]
        have e : X (M m) (.block 0 (.loop l_ref4_space_1)) (sc_st t i ex) = X (M m) (.block 0 (.loop l_ref4_space_1)) (sc_st t (i + k) ex') := by
          rw [X_block, X_block, X_loop, hx]
          rfl
        rw [e]
        exact this
      | done => rw [hk] at hr; left; refine ⟨_, ?_, rfl⟩; simp only [spaceF, hk, Nat.add_zero]; rw [X_block, loop_exit hr (by simp)]; rfl
      | fault e => rw [hk] at hr; left; refine ⟨_, ?_, rfl⟩; simp only [spaceF, hk, Nat.add_zero]; rw [X_block, loop_exit hr (by simp)]; rfl
      | word a b c d e => rw [hk] at hr; left; refine ⟨_, ?_, rfl⟩; simp only [spaceF, hk, Nat.add_zero]; rw [X_block, loop_exit hr (by simp)]; rfl
    · obtain rfl : i = t.length := by omega
      right
      have e : spaceF (f + 1) (t.drop t.length) = (0, true) := by rw [List.drop_length]; rfl
      rw [e]
      refine ⟨[(11, .d (.bool false))], ?_, rfl⟩
      have hx : X (M m) (.loop l_ref4_space_1) (sc_st t t.length ex) = some (.exit 0, sc_st t t.length [(11, .d (.bool false))]) := by
        refine loop_exit ?_ (by simp)
        simp -implicitDefEqProofs (maxSteps := 1000000) (disch := omega) only [↓Int.reduceLT, ↓Int.reduceLE, ↓Int.reduceEq, ↓Nat.reduceEqDiff, Nat.reduceBEq, ↓reduceIte, St.toRS, restrict, initEnv, plainArgs, reduceCtorEq, Nat.reduceEqDiff, Nat.reduceAdd, Nat.reduceMul, Int.reduceLT, Int.reduceLE, Int.reduceEq, Int.reduceNeg, Int.reduceAdd, Int.reduceToNat, Int.reduceNe, Nat.reduceSub, Int.reducePow, Int.reduceMul, vb0, vb1, vb2, vb3, vb4, vb5, vb6, vb7, l_ref4_space_1, sc_st]
      rw [X_block, hx]
      rfl
theorem space_spec (t : List UInt8) (i : Nat) (ht : t.length ≤ 65536) (hi : i ≤ t.length) : C (M m) 21 [.d (.str t), .d (.int .i64 i)] = some (.tup [.int .i64 (i + (spaceF (t.length - i + 1) (t.drop i)).1 : Nat), .bool (spaceF (t.length - i + 1) (t.drop i)).2]) := by
  rw [c_fn (sf := f_ref4_space) rfl rfl ⟨rfl, rfl⟩]
  rcases space_loop (m := m) t ht (t.length - i + 1) i [] hi (by omega) with ⟨st, hx, rfl⟩ | ⟨ex', hx, hb⟩
  · simp only [sc_st] at hx
    rw [X_block] at hx
    simp -implicitDefEqProofs (maxSteps := 1000000) (disch := omega) only [↓Int.reduceLT, ↓Int.reduceLE, ↓Int.reduceEq, ↓Nat.reduceEqDiff, Nat.reduceBEq, ↓reduceIte, St.toRS, restrict, initEnv, plainArgs, reduceCtorEq, Nat.reduceEqDiff, Nat.reduceAdd, Nat.reduceMul, Int.reduceLT, Int.reduceLE, Int.reduceEq, Int.reduceNeg, Int.reduceAdd, Int.reduceToNat, Int.reduceNe, Nat.reduceSub, Int.reducePow, Int.reduceMul, vb0, vb1, vb2, vb3, vb4, vb5, vb6, vb7, f_ref4_space, hx]
  · simp only [sc_st] at hx
    rw [X_block] at hx
    rw [hb]
    simp -implicitDefEqProofs (maxSteps := 1000000) (disch := omega) only [↓Int.reduceLT, ↓Int.reduceLE, ↓Int.reduceEq, ↓Nat.reduceEqDiff, Nat.reduceBEq, ↓reduceIte, St.toRS, restrict, initEnv, plainArgs, reduceCtorEq, Nat.reduceEqDiff, Nat.reduceAdd, Nat.reduceMul, Int.reduceLT, Int.reduceLE, Int.reduceEq, Int.reduceNeg, Int.reduceAdd, Int.reduceToNat, Int.reduceNe, Nat.reduceSub, Int.reducePow, Int.reduceMul, vb0, vb1, vb2, vb3, vb4, vb5, vb6, vb7, f_ref4_space, hx]
end Go.Proofs.Ytladdhfkmnhmfaa
