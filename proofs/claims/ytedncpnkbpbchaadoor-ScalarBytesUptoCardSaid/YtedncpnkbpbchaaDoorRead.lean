/-
  Chunks and fixed words read back: what the program and the reference answer, over data.
-/
import Derived.Test.YtedncpnkbpbchaaDoorSign
set_option linter.unusedVariables false
set_option linter.unusedSimpArgs false
set_option maxRecDepth 100000
set_option maxHeartbeats 8000000
namespace Go.Proofs.YtedncpnkbpbchaaDoor
open Go.Vi
variable {q : Bool}

theorem gvF_ok (b : List UInt8) (a : Nat) : ∀ (f k n : Nat), k + f = 10 → n < 18446744073709551616 →
    (gvF b a f k n).1 < 18446744073709551616 ∧ (gvF b a f k n).2.1 ≤ b.length ∧ (gvF b a f k n).2.2 ≤ 4 := by
  intro f
  induction f with
  | zero => intro k n h1 h2; simp [gvF]
  | succ f ih =>
    intro k n h1 h2
    rw [gvF]
    cases hg : b[a + k]? with
    | none => simp
    | some c =>
      have hlt := (List.getElem?_eq_some_iff.1 hg).1
      simp only
      by_cases h9 : k = 9 ∧ 1 < c.toNat
      · rw [if_pos h9]; simp
      · rw [if_neg h9]
        have hm := or_lt h2 (part_lt c.toNat_lt (k := k) (by omega) h9)
        split
        · exact ⟨hm, by simp only; omega, by simp⟩
        · exact ih (k + 1) _ (by omega) hm
/-- A chunk: its bytes, the place behind it, the error. -/
def ckP (b : List UInt8) (a : Nat) : List UInt8 × Nat × Nat :=
  if (gvF b a 10 0 0).2.2 ≠ 0 then ([], 0, (gvF b a 10 0 0).2.2)
  else if b.length - (gvF b a 10 0 0).2.1 < (gvF b a 10 0 0).1 then ([], 0, 3)
  else ((b.take ((gvF b a 10 0 0).2.1 + (gvF b a 10 0 0).1)).drop (gvF b a 10 0 0).2.1, (gvF b a 10 0 0).2.1 + (gvF b a 10 0 0).1, 0)
def ckD (r : List UInt8 × Nat × Nat) : V := .tup [.slice 1 (bytesD r.1), .int .i64 r.2.1, .int .i64 r.2.2]
theorem span_spec (b : List UInt8) (a : Nat) (hb : b.length ≤ 1048576) (ha : a ≤ b.length) : C (M q) 63 [.d (.slice 1 (bytesD b)), .d (.int .i64 a)] =
    some (if (gvF b a 10 0 0).2.2 ≠ 0 then .tup [.int .i64 0, .int .i64 0, .int .i64 (gvF b a 10 0 0).2.2] else if b.length - (gvF b a 10 0 0).2.1 < (gvF b a 10 0 0).1 then .tup [.int .i64 0, .int .i64 0, .int .i64 3]
      else .tup [.int .i64 (gvF b a 10 0 0).2.1, .int .i64 ((gvF b a 10 0 0).2.1 + (gvF b a 10 0 0).1 : Nat), .int .i64 0]) := by
  rw [c_fn (sf := f_wire_Span) rfl rfl ⟨rfl, rfl⟩]
  have h1 := getVarint_spec (q := q) b a hb ha
  have ok := gvF_ok b a 10 0 0 (by omega) (by omega)
  have hlen := bytesD_length (s := b)
  simp only [gvD] at h1
  generalize gvF b a 10 0 0 = r at *
  obtain ⟨n, t, e⟩ := r
  simp only at ok h1 ⊢
  obtain ⟨o1, o2, o3⟩ := ok
  by_cases he : e = 0
  · subst he
    rw [if_neg (by simp)]
    by_cases hn : b.length - t < n
    · rw [if_pos hn]
      simp -implicitDefEqProofs (maxSteps := 1000000) (disch := omega) only [↓Int.reduceLT, ↓Int.reduceLE, ↓Int.reduceEq, ↓Nat.reduceEqDiff, Nat.reduceBEq, ↓reduceIte, St.toRS, restrict, initEnv, plainArgs, reduceCtorEq, Nat.reduceEqDiff, Nat.reduceAdd, Nat.reduceMul, Int.reduceLT, Int.reduceLE, Int.reduceEq, Int.reduceNeg, Int.reduceAdd, Int.reduceToNat, Int.reduceNe, Nat.reduceSub, Int.reducePow, Int.reduceMul, vb0, vb1, vb2, vb3, vb4, vb5, vb6, vb7, f_wire_Span, h1, hlen, List.getElem?_cons_zero, List.getElem?_cons_succ]
    · rw [if_neg hn]
      simp -implicitDefEqProofs (maxSteps := 1000000) (disch := omega) only [↓Int.reduceLT, ↓Int.reduceLE, ↓Int.reduceEq, ↓Nat.reduceEqDiff, Nat.reduceBEq, ↓reduceIte, St.toRS, restrict, initEnv, plainArgs, reduceCtorEq, Nat.reduceEqDiff, Nat.reduceAdd, Nat.reduceMul, Int.reduceLT, Int.reduceLE, Int.reduceEq, Int.reduceNeg, Int.reduceAdd, Int.reduceToNat, Int.reduceNe, Nat.reduceSub, Int.reducePow, Int.reduceMul, vb0, vb1, vb2, vb3, vb4, vb5, vb6, vb7, f_wire_Span, h1, hlen, List.getElem?_cons_zero, List.getElem?_cons_succ]
  · rw [if_pos he]
    simp -implicitDefEqProofs (maxSteps := 1000000) (disch := omega) only [↓Int.reduceLT, ↓Int.reduceLE, ↓Int.reduceEq, ↓Nat.reduceEqDiff, Nat.reduceBEq, ↓reduceIte, St.toRS, restrict, initEnv, plainArgs, reduceCtorEq, Nat.reduceEqDiff, Nat.reduceAdd, Nat.reduceMul, Int.reduceLT, Int.reduceLE, Int.reduceEq, Int.reduceNeg, Int.reduceAdd, Int.reduceToNat, Int.reduceNe, Nat.reduceSub, Int.reducePow, Int.reduceMul, vb0, vb1, vb2, vb3, vb4, vb5, vb6, vb7, f_wire_Span, h1, hlen, List.getElem?_cons_zero, List.getElem?_cons_succ]
theorem getChunk_spec (b : List UInt8) (a : Nat) (hb : b.length ≤ 1048576) (ha : a ≤ b.length) : C (M q) 36 [.d (.slice 1 (bytesD b)), .d (.int .i64 a)] = some (ckD (ckP b a)) := by
  rw [c_fn (sf := f_wire_GetChunk) rfl rfl ⟨rfl, rfl⟩]
  have h1 := span_spec (q := q) b a hb ha
  have ok := gvF_ok b a 10 0 0 (by omega) (by omega)
  have hlen := bytesD_length (s := b)
  simp only [ckP, ckD]
  generalize gvF b a 10 0 0 = r at *
  obtain ⟨n, t, e⟩ := r
  simp only at ok h1 ⊢
  obtain ⟨o1, o2, o3⟩ := ok
  by_cases he : e = 0
  · subst he
    rw [if_neg (by simp)] at h1 ⊢
    by_cases hn : b.length - t < n
    · rw [if_pos hn] at h1 ⊢
      simp -implicitDefEqProofs (maxSteps := 1000000) (disch := omega) only [↓Int.reduceLT, ↓Int.reduceLE, ↓Int.reduceEq, ↓Nat.reduceEqDiff, Nat.reduceBEq, ↓reduceIte, St.toRS, restrict, initEnv, plainArgs, reduceCtorEq, Nat.reduceEqDiff, Nat.reduceAdd, Nat.reduceMul, Int.reduceLT, Int.reduceLE, Int.reduceEq, Int.reduceNeg, Int.reduceAdd, Int.reduceToNat, Int.reduceNe, Nat.reduceSub, Int.reducePow, Int.reduceMul, vb0, vb1, vb2, vb3, vb4, vb5, vb6, vb7, f_wire_GetChunk, h1, hlen, List.getElem?_cons_zero, List.getElem?_cons_succ, bytesD_nil]
    · rw [if_neg hn] at h1 ⊢
      have hl2 : (List.drop t (List.take (t + n) b)).length = n := by simp; omega
      have hl3 := bytesD_length (s := List.drop t (List.take (t + n) b))
      simp -implicitDefEqProofs (maxSteps := 1000000) (disch := omega) only [↓Int.reduceLT, ↓Int.reduceLE, ↓Int.reduceEq, ↓Nat.reduceEqDiff, Nat.reduceBEq, ↓reduceIte, St.toRS, restrict, initEnv, plainArgs, reduceCtorEq, Nat.reduceEqDiff, Nat.reduceAdd, Nat.reduceMul, Int.reduceLT, Int.reduceLE, Int.reduceEq, Int.reduceNeg, Int.reduceAdd, Int.reduceToNat, Int.reduceNe, Nat.reduceSub, Int.reducePow, Int.reduceMul, vb0, vb1, vb2, vb3, vb4, vb5, vb6, vb7, f_wire_GetChunk, h1, hlen, List.getElem?_cons_zero, List.getElem?_cons_succ, bytesD_nil, D.cells, bytesD_take, bytesD_drop, hl2, hl3, List.nil_append, List.replicate_zero]
  · rw [if_pos he] at h1 ⊢
    simp -implicitDefEqProofs (maxSteps := 1000000) (disch := omega) only [↓Int.reduceLT, ↓Int.reduceLE, ↓Int.reduceEq, ↓Nat.reduceEqDiff, Nat.reduceBEq, ↓reduceIte, St.toRS, restrict, initEnv, plainArgs, reduceCtorEq, Nat.reduceEqDiff, Nat.reduceAdd, Nat.reduceMul, Int.reduceLT, Int.reduceLE, Int.reduceEq, Int.reduceNeg, Int.reduceAdd, Int.reduceToNat, Int.reduceNe, Nat.reduceSub, Int.reducePow, Int.reduceMul, vb0, vb1, vb2, vb3, vb4, vb5, vb6, vb7, f_wire_GetChunk, h1, hlen, List.getElem?_cons_zero, List.getElem?_cons_succ, bytesD_nil]
theorem rgetChunk_spec (b : List UInt8) (a : Nat) (hb : b.length ≤ 1048576) (ha : a ≤ b.length) : C (M q) 50 [.d (.slice 1 (bytesD b)), .d (.int .i64 a)] = some (ckD (ckP b a)) := by
  rw [c_fn (sf := f_ref1_GetChunk) rfl rfl ⟨rfl, rfl⟩]
  have h1 := rgetVarint_spec (q := q) b a hb ha
  have ok := gvF_ok b a 10 0 0 (by omega) (by omega)
  have hlen := bytesD_length (s := b)
  simp only [ckP, ckD]
  simp only [gvD] at h1
  generalize gvF b a 10 0 0 = r at *
  obtain ⟨n, t, e⟩ := r
  simp only at ok h1 ⊢
  obtain ⟨o1, o2, o3⟩ := ok
  by_cases he : e = 0
  · subst he
    rw [if_neg (by simp)]
    by_cases hn : b.length - t < n
    · rw [if_pos hn]
      simp -implicitDefEqProofs (maxSteps := 1000000) (disch := omega) only [↓Int.reduceLT, ↓Int.reduceLE, ↓Int.reduceEq, ↓Nat.reduceEqDiff, Nat.reduceBEq, ↓reduceIte, St.toRS, restrict, initEnv, plainArgs, reduceCtorEq, Nat.reduceEqDiff, Nat.reduceAdd, Nat.reduceMul, Int.reduceLT, Int.reduceLE, Int.reduceEq, Int.reduceNeg, Int.reduceAdd, Int.reduceToNat, Int.reduceNe, Nat.reduceSub, Int.reducePow, Int.reduceMul, vb0, vb1, vb2, vb3, vb4, vb5, vb6, vb7, f_ref1_GetChunk, h1, hlen, List.getElem?_cons_zero, List.getElem?_cons_succ, bytesD_nil]
    · rw [if_neg hn]
      have hl2 : (List.drop t (List.take (t + n) b)).length = n := by simp; omega
      have hl3 := bytesD_length (s := List.drop t (List.take (t + n) b))
      simp -implicitDefEqProofs (maxSteps := 1000000) (disch := omega) only [↓Int.reduceLT, ↓Int.reduceLE, ↓Int.reduceEq, ↓Nat.reduceEqDiff, Nat.reduceBEq, ↓reduceIte, St.toRS, restrict, initEnv, plainArgs, reduceCtorEq, Nat.reduceEqDiff, Nat.reduceAdd, Nat.reduceMul, Int.reduceLT, Int.reduceLE, Int.reduceEq, Int.reduceNeg, Int.reduceAdd, Int.reduceToNat, Int.reduceNe, Nat.reduceSub, Int.reducePow, Int.reduceMul, vb0, vb1, vb2, vb3, vb4, vb5, vb6, vb7, f_ref1_GetChunk, h1, hlen, List.getElem?_cons_zero, List.getElem?_cons_succ, bytesD_nil, bytesD_take, bytesD_drop, hl2, hl3, List.nil_append]
  · rw [if_pos he]
    simp -implicitDefEqProofs (maxSteps := 1000000) (disch := omega) only [↓Int.reduceLT, ↓Int.reduceLE, ↓Int.reduceEq, ↓Nat.reduceEqDiff, Nat.reduceBEq, ↓reduceIte, St.toRS, restrict, initEnv, plainArgs, reduceCtorEq, Nat.reduceEqDiff, Nat.reduceAdd, Nat.reduceMul, Int.reduceLT, Int.reduceLE, Int.reduceEq, Int.reduceNeg, Int.reduceAdd, Int.reduceToNat, Int.reduceNe, Nat.reduceSub, Int.reducePow, Int.reduceMul, vb0, vb1, vb2, vb3, vb4, vb5, vb6, vb7, f_ref1_GetChunk, h1, hlen, List.getElem?_cons_zero, List.getElem?_cons_succ, bytesD_nil]

/-! ### Words -/
def leF (b : List UInt8) (a : Nat) : Nat → Nat
  | 0 => 0
  | i + 1 => leF b a i + (b.getD (a + i) 0).toNat * 2 ^ (8 * i)
theorem leF_lt (b : List UInt8) (a : Nat) : ∀ i, leF b a i < 2 ^ (8 * i)
  | 0 => by simp [leF]
  | i + 1 => by
    have h1 := leF_lt b a i
    have h2 := (b.getD (a + i) 0).toNat_lt
    rw [leF, show 8 * (i + 1) = 8 * i + 8 by omega, Nat.pow_add]
    have h3 : (b.getD (a + i) 0).toNat * 2 ^ (8 * i) ≤ 255 * 2 ^ (8 * i) := Nat.mul_le_mul_right _ (by omega)
    omega
theorem or_add {n i c : Nat} (h : n < 2 ^ i) : n ||| c * 2 ^ i = n + c * 2 ^ i := by
  have := Nat.two_pow_add_eq_or_of_lt h c
  rw [Nat.mul_comm c, Nat.or_comm, ← this, Nat.add_comm]
def rd_st (b : List UInt8) (a s i n : Nat) : St := { env := [(0, .d (.slice 1 (bytesD b))), (1, .d (.int .i64 a)), (2, .d (.int .i64 s)), (6, .d (.int .u64 n)), (22, .d (.int .i64 s)), (23, .d (.int .i64 i))], bx := [] }
theorem rd_loop (b : List UInt8) (a s : Nat) (hb : b.length ≤ 1048576) (hs : s ≤ 8) (ha : a + s ≤ b.length) : ∀ (f i : Nat), i ≤ s → s - i ≤ f →
    X (M q) (.loop l_wire_read_1) (rd_st b a s i (leF b a i)) = some (.exit 1, { env := [(0, .d (.slice 1 (bytesD b))), (1, .d (.int .i64 a)), (2, .d (.int .i64 s)), (6, .d (.int .u64 (leF b a s : Nat))), (22, .d (.int .i64 s)), (23, .d (.int .i64 s)), (24, .d (.bool false))], bx := [] }) := by
  have hlen := bytesD_length (s := b)
  have stop : X (M q) (.loop l_wire_read_1) (rd_st b a s s (leF b a s)) = some (.exit 1, { env := [(0, .d (.slice 1 (bytesD b))), (1, .d (.int .i64 a)), (2, .d (.int .i64 s)), (6, .d (.int .u64 (leF b a s : Nat))), (22, .d (.int .i64 s)), (23, .d (.int .i64 s)), (24, .d (.bool false))], bx := [] }) := by
    refine loop_exit ?_ (by simp)
    generalize leF b a s = n
    simp -implicitDefEqProofs (maxSteps := 1000000) (disch := omega) only [↓Int.reduceLT, ↓Int.reduceLE, ↓Int.reduceEq, ↓Nat.reduceEqDiff, Nat.reduceBEq, ↓reduceIte, St.toRS, restrict, initEnv, plainArgs, reduceCtorEq, Nat.reduceEqDiff, Nat.reduceAdd, Nat.reduceMul, Int.reduceLT, Int.reduceLE, Int.reduceEq, Int.reduceNeg, Int.reduceAdd, Int.reduceToNat, Int.reduceNe, Nat.reduceSub, Int.reducePow, Int.reduceMul, vb0, vb1, vb2, vb3, vb4, vb5, vb6, vb7, l_wire_read_1, rd_st]
  intro f
  induction f with
  | zero => intro i h1 h2; obtain rfl : i = s := by omega
            exact stop
  | succ f ih =>
    intro i h1 h2
    by_cases h : i = s
    · subst h; exact stop
    · have hlt : a + i < b.length := by omega
      have hg : (bytesD b)[a + i]? = some (.int .u8 ((b[a + i]).toNat : Int)) := by rw [bytesD_get, List.getElem?_eq_getElem hlt]; rfl
      have hd : b.getD (a + i) 0 = b[a + i] := by simp [List.getD, hlt]
      have hc := (b[a + i]).toNat_lt
      have l1 := leF_lt b a i
      have l2 := leF_lt b a (i + 1)
      have p2 : 2 ^ (8 * (i + 1)) ≤ 2 ^ 64 := Nat.pow_le_pow_right (by omega) (by omega)
      have p1 : 2 ^ (8 * i) ≤ 2 ^ 64 := Nat.pow_le_pow_right (by omega) (by omega)
      have hle : leF b a (i + 1) = leF b a i + b[a + i].toNat * 2 ^ (8 * i) := by rw [leF, hd]
      have w1 : IntKind.u64.wrap ((b[a + i].toNat * 2 ^ (8 * i) : Nat) : Int) = ((b[a + i].toNat * 2 ^ (8 * i) : Nat) : Int) := wrap_u64_nat (by omega)
      have w2 : bitsD .or .u64 ((leF b a i : Nat) : Int) ((b[a + i].toNat * 2 ^ (8 * i) : Nat) : Int) = ((leF b a (i + 1) : Nat) : Int) := by
        rw [or_u64 (by omega) (by omega), or_add l1, hle]
      have w4 := sh_8i (i := i) (by omega)
      have w5 := mul_pow (b[a + i].toNat) (8 * i)
      have hr : X (M q) l_wire_read_1 (rd_st b a s i (leF b a i)) = some (.norm, rd_st b a s (i + 1) (leF b a (i + 1))) := by
        clear hle l1 l2 p1 p2 hd
        generalize (b[a + i]).toNat = c at *
        generalize c * 2 ^ (8 * i) = p' at *
        generalize leF b a (i + 1) = m at *
        generalize leF b a i = n at *
        simp -implicitDefEqProofs (maxSteps := 1000000) (disch := omega) only [↓Int.reduceLT, ↓Int.reduceLE, ↓Int.reduceEq, ↓Nat.reduceEqDiff, Nat.reduceBEq, ↓reduceIte, St.toRS, restrict, initEnv, plainArgs, reduceCtorEq, Nat.reduceEqDiff, Nat.reduceAdd, Nat.reduceMul, Int.reduceLT, Int.reduceLE, Int.reduceEq, Int.reduceNeg, Int.reduceAdd, Int.reduceToNat, Int.reduceNe, Nat.reduceSub, Int.reducePow, Int.reduceMul, vb0, vb1, vb2, vb3, vb4, vb5, vb6, vb7, l_wire_read_1, rd_st, hg, hlen, up_8i, w1, w2, w4, w5]
      rw [X_loop, hr]
      simp only [andThen]
      exact ih (i + 1) (by omega) (by omega)
/-- A word of so many bytes: the number, the place behind it, the error. -/
def rdP (b : List UInt8) (a s : Nat) : Nat × Nat × Nat := if b.length - a < s then (0, 0, 3) else (leF b a s, a + s, 0)
theorem read_spec (b : List UInt8) (a s : Nat) (hb : b.length ≤ 1048576) (ha : a ≤ b.length) (hs : s ≤ 8) : C (M q) 64 [.d (.slice 1 (bytesD b)), .d (.int .i64 a), .d (.int .i64 s)] = some (gvD (rdP b a s)) := by
  rw [c_fn (sf := f_wire_read) rfl rfl ⟨rfl, rfl⟩]
  have hp := place_spec (q := q) b a hb
  have e : decide ((0 : Int) ≤ a ∧ (a : Int) ≤ b.length) = true := by simp; omega
  have hlen := bytesD_length (s := b)
  rw [e] at hp
  clear e
  simp only [rdP]
  by_cases h : b.length - a < s
  · rw [if_pos h]
    simp -implicitDefEqProofs (maxSteps := 1000000) (disch := omega) only [↓Int.reduceLT, ↓Int.reduceLE, ↓Int.reduceEq, ↓Nat.reduceEqDiff, Nat.reduceBEq, ↓reduceIte, St.toRS, restrict, initEnv, plainArgs, reduceCtorEq, Nat.reduceEqDiff, Nat.reduceAdd, Nat.reduceMul, Int.reduceLT, Int.reduceLE, Int.reduceEq, Int.reduceNeg, Int.reduceAdd, Int.reduceToNat, Int.reduceNe, Nat.reduceSub, Int.reducePow, Int.reduceMul, vb0, vb1, vb2, vb3, vb4, vb5, vb6, vb7, f_wire_read, hp, hlen, gvD]
  · rw [if_neg h]
    have hl := rd_loop (q := q) b a s hb hs (by omega) 8 0 (by omega) (by omega)
    simp only [rd_st, Int.cast_ofNat_Int, show leF b a 0 = 0 from rfl] at hl
    generalize leF b a s = n at *
    simp -implicitDefEqProofs (maxSteps := 1000000) (disch := omega) only [↓Int.reduceLT, ↓Int.reduceLE, ↓Int.reduceEq, ↓Nat.reduceEqDiff, Nat.reduceBEq, ↓reduceIte, St.toRS, restrict, initEnv, plainArgs, reduceCtorEq, Nat.reduceEqDiff, Nat.reduceAdd, Nat.reduceMul, Int.reduceLT, Int.reduceLE, Int.reduceEq, Int.reduceNeg, Int.reduceAdd, Int.reduceToNat, Int.reduceNe, Nat.reduceSub, Int.reducePow, Int.reduceMul, vb0, vb1, vb2, vb3, vb4, vb5, vb6, vb7, f_wire_read, hp, hlen, gvD, hl]
theorem read_out (b : List UInt8) (a : Int) (s : Nat) (hb : b.length ≤ 1048576) (ha : a < 0 ∨ b.length < a) : C (M q) 64 [.d (.slice 1 (bytesD b)), .d (.int .i64 a), .d (.int .i64 s)] = some (.tup [.int .u64 0, .int .i64 0, .int .i64 18]) := by
  rw [c_fn (sf := f_wire_read) rfl rfl ⟨rfl, rfl⟩]
  have hp := place_spec (q := q) b a hb
  have e : decide ((0 : Int) ≤ a ∧ (a : Int) ≤ b.length) = false := by simp; omega
  rw [e] at hp
  simp -implicitDefEqProofs (maxSteps := 1000000) (disch := omega) only [↓Int.reduceLT, ↓Int.reduceLE, ↓Int.reduceEq, ↓Nat.reduceEqDiff, Nat.reduceBEq, ↓reduceIte, St.toRS, restrict, initEnv, plainArgs, reduceCtorEq, Nat.reduceEqDiff, Nat.reduceAdd, Nat.reduceMul, Int.reduceLT, Int.reduceLE, Int.reduceEq, Int.reduceNeg, Int.reduceAdd, Int.reduceToNat, Int.reduceNe, Nat.reduceSub, Int.reducePow, Int.reduceMul, vb0, vb1, vb2, vb3, vb4, vb5, vb6, vb7, f_wire_read, hp]

/-! ### The reference's -/
def hiF (b : List UInt8) (a s : Nat) : Nat → Nat
  | 0 => 0
  | m + 1 => hiF b a s m * 256 + (b.getD (a + (s - 1 - m)) 0).toNat
theorem hi_le (b : List UInt8) (a s : Nat) : ∀ m, m ≤ s → leF b a s = leF b a (s - m) + hiF b a s m * 2 ^ (8 * (s - m))
  | 0, _ => by simp [hiF]
  | m + 1, h => by
    rw [hi_le b a s m (by omega), hiF]
    obtain ⟨j, hj⟩ : ∃ j, s - m = j + 1 := ⟨s - m - 1, by omega⟩
    have e8 : (2 : Nat) ^ 8 = 256 := rfl
    rw [show s - (m + 1) = j by omega, hj, show s - 1 - m = j by omega, leF, show 8 * (j + 1) = 8 * j + 8 by omega, Nat.pow_add, e8, Nat.add_mul, Nat.mul_assoc, Nat.mul_comm 256 (2 ^ (8 * j))]
    omega
theorem hi_all (b : List UInt8) (a s : Nat) : hiF b a s s = leF b a s := by
  rw [hi_le b a s s (Nat.le_refl s)]
  simp [leF]
theorem hiF_lt (b : List UInt8) (a s : Nat) : ∀ m, hiF b a s m < 2 ^ (8 * m)
  | 0 => by simp [hiF]
  | m + 1 => by
    have h1 := hiF_lt b a s m
    have h2 := (b.getD (a + (s - 1 - m)) 0).toNat_lt
    rw [hiF, show 8 * (m + 1) = 8 * m + 8 by omega, Nat.pow_add]
    omega
def rrd_st (b : List UInt8) (a s : Nat) (k : Int) (n : Nat) : St := { env := [(0, .d (.slice 1 (bytesD b))), (1, .d (.int .i64 a)), (2, .d (.int .i64 s)), (9, .d (.int .u64 n)), (10, .d (.int .i64 k))], bx := [] }
theorem rrd_loop (b : List UInt8) (a s : Nat) (hb : b.length ≤ 1048576) (hs : s ≤ 8) (ha : a + s ≤ b.length) : ∀ (f m : Nat), m + f = s →
    X (M q) (.loop l_ref1_Word_1) (rrd_st b a s ((s : Int) - 1 - m) (hiF b a s m)) = some (.exit 0, { env := [(0, .d (.slice 1 (bytesD b))), (1, .d (.int .i64 a)), (2, .d (.int .i64 s)), (9, .d (.int .u64 (leF b a s : Nat))), (10, .d (.int .i64 (-1))), (20, .d (.bool false))], bx := [] }) := by
  have hlen := bytesD_length (s := b)
  intro f
  induction f with
  | zero =>
    intro m h
    obtain rfl : m = s := by omega
    rw [hi_all, show (m : Int) - 1 - m = -1 by omega]
    refine loop_exit ?_ (by simp)
    generalize leF b a m = n
    simp -implicitDefEqProofs (maxSteps := 1000000) (disch := omega) only [↓Int.reduceLT, ↓Int.reduceLE, ↓Int.reduceEq, ↓Nat.reduceEqDiff, Nat.reduceBEq, ↓reduceIte, St.toRS, restrict, initEnv, plainArgs, reduceCtorEq, Nat.reduceEqDiff, Nat.reduceAdd, Nat.reduceMul, Int.reduceLT, Int.reduceLE, Int.reduceEq, Int.reduceNeg, Int.reduceAdd, Int.reduceToNat, Int.reduceNe, Nat.reduceSub, Int.reducePow, Int.reduceMul, vb0, vb1, vb2, vb3, vb4, vb5, vb6, vb7, l_ref1_Word_1, rrd_st]
  | succ f ih =>
    intro m h
    obtain ⟨k, hk⟩ : ∃ k : Nat, s - 1 - m = k := ⟨_, rfl⟩
    have hk2 : (s : Int) - 1 - m = (k : Int) := by omega
    have hlt : a + k < b.length := by omega
    have hg : (bytesD b)[a + k]? = some (.int .u8 ((b[a + k]).toNat : Int)) := by rw [bytesD_get, List.getElem?_eq_getElem hlt]; rfl
    have hd : b.getD (a + k) 0 = b[a + k] := by simp [List.getD, hlt]
    have hc := (b[a + k]).toNat_lt
    have l2 := hiF_lt b a s (m + 1)
    have p2 : 2 ^ (8 * (m + 1)) ≤ 2 ^ 64 := Nat.pow_le_pow_right (by omega) (by omega)
    have hle : hiF b a s (m + 1) = hiF b a s m * 256 + b[a + k].toNat := by rw [hiF, hk, hd]
    have hih := ih (m + 1) (by omega)
    rw [show (s : Int) - 1 - (m + 1 : Nat) = (k : Int) - 1 by omega] at hih
    rw [hk2, ← hih, X_loop]
    have hr : X (M q) l_ref1_Word_1 (rrd_st b a s k (hiF b a s m)) = some (.norm, rrd_st b a s ((k : Int) - 1) (hiF b a s (m + 1))) := by
      have hu : hiF b a s (m + 1) < 18446744073709551616 := by omega
      rw [hle] at hu ⊢
      clear hle l2 p2 hd hih ih
      generalize (b[a + k]).toNat = c at *
      generalize hiF b a s m = n at *
      simp -implicitDefEqProofs (maxSteps := 1000000) (disch := omega) only [↓Int.reduceLT, ↓Int.reduceLE, ↓Int.reduceEq, ↓Nat.reduceEqDiff, Nat.reduceBEq, ↓reduceIte, St.toRS, restrict, initEnv, plainArgs, reduceCtorEq, Nat.reduceEqDiff, Nat.reduceAdd, Nat.reduceMul, Int.reduceLT, Int.reduceLE, Int.reduceEq, Int.reduceNeg, Int.reduceAdd, Int.reduceToNat, Int.reduceNe, Nat.reduceSub, Int.reducePow, Int.reduceMul, vb0, vb1, vb2, vb3, vb4, vb5, vb6, vb7, l_ref1_Word_1, rrd_st, hg, hlen]
    rw [hr]
    rfl
theorem rword_spec (b : List UInt8) (a s : Nat) (hb : b.length ≤ 1048576) (ha : a ≤ b.length) (hs : s ≤ 8) (h0 : 1 ≤ s) : C (M q) 49 [.d (.slice 1 (bytesD b)), .d (.int .i64 a), .d (.int .i64 s)] = some (gvD (rdP b a s)) := by
  rw [c_fn (sf := f_ref1_Word) rfl rfl ⟨rfl, rfl⟩]
  have hlen := bytesD_length (s := b)
  simp only [rdP]
  by_cases h : b.length - a < s
  · rw [if_pos h]
    simp -implicitDefEqProofs (maxSteps := 1000000) (disch := omega) only [↓Int.reduceLT, ↓Int.reduceLE, ↓Int.reduceEq, ↓Nat.reduceEqDiff, Nat.reduceBEq, ↓reduceIte, St.toRS, restrict, initEnv, plainArgs, reduceCtorEq, Nat.reduceEqDiff, Nat.reduceAdd, Nat.reduceMul, Int.reduceLT, Int.reduceLE, Int.reduceEq, Int.reduceNeg, Int.reduceAdd, Int.reduceToNat, Int.reduceNe, Nat.reduceSub, Int.reducePow, Int.reduceMul, vb0, vb1, vb2, vb3, vb4, vb5, vb6, vb7, f_ref1_Word, hlen, gvD]
  · rw [if_neg h]
    have hl := rrd_loop (q := q) b a s hb hs (by omega) s 0 (by omega)
    rw [show (s : Int) - 1 - (0 : Nat) = ((s - 1 : Nat) : Int) by omega] at hl
    simp only [rrd_st, Int.cast_ofNat_Int, show hiF b a s 0 = 0 from rfl] at hl
    generalize leF b a s = n at *
    simp -implicitDefEqProofs (maxSteps := 1000000) (disch := omega) only [↓Int.reduceLT, ↓Int.reduceLE, ↓Int.reduceEq, ↓Nat.reduceEqDiff, Nat.reduceBEq, ↓reduceIte, St.toRS, restrict, initEnv, plainArgs, reduceCtorEq, Nat.reduceEqDiff, Nat.reduceAdd, Nat.reduceMul, Int.reduceLT, Int.reduceLE, Int.reduceEq, Int.reduceNeg, Int.reduceAdd, Int.reduceToNat, Int.reduceNe, Nat.reduceSub, Int.reducePow, Int.reduceMul, vb0, vb1, vb2, vb3, vb4, vb5, vb6, vb7, f_ref1_Word, hlen, gvD, hl]
theorem getFix64_spec (b : List UInt8) (a : Nat) (hb : b.length ≤ 1048576) (ha : a ≤ b.length) : C (M q) 38 [.d (.slice 1 (bytesD b)), .d (.int .i64 a)] = some (gvD (rdP b a 8)) := by
  rw [c_fn (sf := f_wire_GetFix64) rfl rfl ⟨rfl, rfl⟩]
  have h1 := read_spec (q := q) b a 8 hb ha (by omega)
  simp only [Int.cast_ofNat_Int, gvD] at h1
  generalize rdP b a 8 = r at *
  simp -implicitDefEqProofs (maxSteps := 1000000) (disch := omega) only [↓Int.reduceLT, ↓Int.reduceLE, ↓Int.reduceEq, ↓Nat.reduceEqDiff, Nat.reduceBEq, ↓reduceIte, St.toRS, restrict, initEnv, plainArgs, reduceCtorEq, Nat.reduceEqDiff, Nat.reduceAdd, Nat.reduceMul, Int.reduceLT, Int.reduceLE, Int.reduceEq, Int.reduceNeg, Int.reduceAdd, Int.reduceToNat, Int.reduceNe, Nat.reduceSub, Int.reducePow, Int.reduceMul, vb0, vb1, vb2, vb3, vb4, vb5, vb6, vb7, f_wire_GetFix64, h1, gvD, List.getElem?_cons_zero, List.getElem?_cons_succ]
theorem getFix32_spec (b : List UInt8) (a : Nat) (hb : b.length ≤ 1048576) (ha : a ≤ b.length) : C (M q) 37 [.d (.slice 1 (bytesD b)), .d (.int .i64 a)] = some (.tup [.int .u32 (rdP b a 4).1, .int .i64 (rdP b a 4).2.1, .int .i64 (rdP b a 4).2.2]) := by
  rw [c_fn (sf := f_wire_GetFix32) rfl rfl ⟨rfl, rfl⟩]
  have h1 := read_spec (q := q) b a 4 hb ha (by omega)
  have h2 : (rdP b a 4).1 < 4294967296 := by
    have := leF_lt b a 4
    simp only [rdP]; split <;> simp only <;> omega
  simp only [Int.cast_ofNat_Int, gvD] at h1
  generalize rdP b a 4 = r at *
  simp -implicitDefEqProofs (maxSteps := 1000000) (disch := omega) only [↓Int.reduceLT, ↓Int.reduceLE, ↓Int.reduceEq, ↓Nat.reduceEqDiff, Nat.reduceBEq, ↓reduceIte, St.toRS, restrict, initEnv, plainArgs, reduceCtorEq, Nat.reduceEqDiff, Nat.reduceAdd, Nat.reduceMul, Int.reduceLT, Int.reduceLE, Int.reduceEq, Int.reduceNeg, Int.reduceAdd, Int.reduceToNat, Int.reduceNe, Nat.reduceSub, Int.reducePow, Int.reduceMul, vb0, vb1, vb2, vb3, vb4, vb5, vb6, vb7, f_wire_GetFix32, h1, List.getElem?_cons_zero, List.getElem?_cons_succ]
/-! ### No such place -/
theorem getChunk_out (b : List UInt8) (a : Int) (hb : b.length ≤ 1048576) (ha : a < 0 ∨ b.length < a) : C (M q) 36 [.d (.slice 1 (bytesD b)), .d (.int .i64 a)] = some (.tup [.slice 1 [], .int .i64 0, .int .i64 18]) := by
  have h0 := getVarint_out (q := q) b a hb ha
  have h1 : C (M q) 63 [.d (.slice 1 (bytesD b)), .d (.int .i64 a)] = some (.tup [.int .i64 0, .int .i64 0, .int .i64 18]) := by
    rw [c_fn (sf := f_wire_Span) rfl rfl ⟨rfl, rfl⟩]
    simp -implicitDefEqProofs (maxSteps := 1000000) (disch := omega) only [↓Int.reduceLT, ↓Int.reduceLE, ↓Int.reduceEq, ↓Nat.reduceEqDiff, Nat.reduceBEq, ↓reduceIte, St.toRS, restrict, initEnv, plainArgs, reduceCtorEq, Nat.reduceEqDiff, Nat.reduceAdd, Nat.reduceMul, Int.reduceLT, Int.reduceLE, Int.reduceEq, Int.reduceNeg, Int.reduceAdd, Int.reduceToNat, Int.reduceNe, Nat.reduceSub, Int.reducePow, Int.reduceMul, vb0, vb1, vb2, vb3, vb4, vb5, vb6, vb7, f_wire_Span, h0, List.getElem?_cons_zero, List.getElem?_cons_succ]
  rw [c_fn (sf := f_wire_GetChunk) rfl rfl ⟨rfl, rfl⟩]
  simp -implicitDefEqProofs (maxSteps := 1000000) (disch := omega) only [↓Int.reduceLT, ↓Int.reduceLE, ↓Int.reduceEq, ↓Nat.reduceEqDiff, Nat.reduceBEq, ↓reduceIte, St.toRS, restrict, initEnv, plainArgs, reduceCtorEq, Nat.reduceEqDiff, Nat.reduceAdd, Nat.reduceMul, Int.reduceLT, Int.reduceLE, Int.reduceEq, Int.reduceNeg, Int.reduceAdd, Int.reduceToNat, Int.reduceNe, Nat.reduceSub, Int.reducePow, Int.reduceMul, vb0, vb1, vb2, vb3, vb4, vb5, vb6, vb7, f_wire_GetChunk, h1, List.getElem?_cons_zero, List.getElem?_cons_succ]
theorem getFix64_out (b : List UInt8) (a : Int) (hb : b.length ≤ 1048576) (ha : a < 0 ∨ b.length < a) : C (M q) 38 [.d (.slice 1 (bytesD b)), .d (.int .i64 a)] = some (.tup [.int .u64 0, .int .i64 0, .int .i64 18]) := by
  have h1 := read_out (q := q) b a 8 hb ha
  simp only [Int.cast_ofNat_Int] at h1
  rw [c_fn (sf := f_wire_GetFix64) rfl rfl ⟨rfl, rfl⟩]
  simp -implicitDefEqProofs (maxSteps := 1000000) (disch := omega) only [↓Int.reduceLT, ↓Int.reduceLE, ↓Int.reduceEq, ↓Nat.reduceEqDiff, Nat.reduceBEq, ↓reduceIte, St.toRS, restrict, initEnv, plainArgs, reduceCtorEq, Nat.reduceEqDiff, Nat.reduceAdd, Nat.reduceMul, Int.reduceLT, Int.reduceLE, Int.reduceEq, Int.reduceNeg, Int.reduceAdd, Int.reduceToNat, Int.reduceNe, Nat.reduceSub, Int.reducePow, Int.reduceMul, vb0, vb1, vb2, vb3, vb4, vb5, vb6, vb7, f_wire_GetFix64, h1, List.getElem?_cons_zero, List.getElem?_cons_succ]
theorem getFix32_out (b : List UInt8) (a : Int) (hb : b.length ≤ 1048576) (ha : a < 0 ∨ b.length < a) : C (M q) 37 [.d (.slice 1 (bytesD b)), .d (.int .i64 a)] = some (.tup [.int .u32 0, .int .i64 0, .int .i64 18]) := by
  have h1 := read_out (q := q) b a 4 hb ha
  simp only [Int.cast_ofNat_Int] at h1
  rw [c_fn (sf := f_wire_GetFix32) rfl rfl ⟨rfl, rfl⟩]
  simp -implicitDefEqProofs (maxSteps := 1000000) (disch := omega) only [↓Int.reduceLT, ↓Int.reduceLE, ↓Int.reduceEq, ↓Nat.reduceEqDiff, Nat.reduceBEq, ↓reduceIte, St.toRS, restrict, initEnv, plainArgs, reduceCtorEq, Nat.reduceEqDiff, Nat.reduceAdd, Nat.reduceMul, Int.reduceLT, Int.reduceLE, Int.reduceEq, Int.reduceNeg, Int.reduceAdd, Int.reduceToNat, Int.reduceNe, Nat.reduceSub, Int.reducePow, Int.reduceMul, vb0, vb1, vb2, vb3, vb4, vb5, vb6, vb7, f_wire_GetFix32, h1, List.getElem?_cons_zero, List.getElem?_cons_succ]
end Go.Proofs.YtedncpnkbpbchaaDoor
