/-
  unicode/utf8.Valid over data: eight bytes at once.
-/
import Derived.Test.YtedncpnkbpbchaaDoorChr2
set_option linter.unusedVariables false
set_option linter.unusedSimpArgs false
set_option maxRecDepth 100000
set_option maxHeartbeats 8000000
namespace Go.Proofs.YtedncpnkbpbchaaDoor.U
open Go.Vi

def wterm (p : List UInt8) (j : Nat) : Int := (((p[j]?.getD 0).toNat * 2 ^ (8 * j) : Nat) : Int)
def W (p : List UInt8) : Int :=
  bitsD .or .u64 (bitsD .or .u64 (bitsD .or .u64 (bitsD .or .u64 (bitsD .or .u64 (bitsD .or .u64 (bitsD .or .u64 (wterm p 0) (wterm p 1)) (wterm p 2)) (wterm p 3)) (wterm p 4)) (wterm p 5)) (wterm p 6)) (wterm p 7)

theorem word_spec (p : List UInt8) (h : 8 ≤ p.length) : C (M false) 75 [.d (.slice 1 (bytesD p))] = some (.d (.int .u64 (W p))) := by
  match p, h with
  | b0 :: b1 :: b2 :: b3 :: b4 :: b5 :: b6 :: b7 :: r, _ =>
    rw [c_fn (sf := f_unicode_utf8_word___byte_) rfl rfl ⟨rfl, rfl⟩]
    have l0 := b0.toNat_lt
    have l1 := b1.toNat_lt
    have l2 := b2.toNat_lt
    have l3 := b3.toNat_lt
    have l4 := b4.toNat_lt
    have l5 := b5.toNat_lt
    have l6 := b6.toNat_lt
    have l7 := b7.toNat_lt
    simp -implicitDefEqProofs (maxSteps := 1000000) (disch := omega) only [↓Int.reduceLT, ↓Int.reduceLE, ↓Int.reduceEq, ↓Nat.reduceEqDiff, Nat.reduceBEq, ↓reduceIte, St.toRS, restrict, initEnv, plainArgs, reduceCtorEq, Nat.reduceEqDiff, Nat.reduceAdd, Nat.reduceMul, Int.reduceLT, Int.reduceLE, Int.reduceEq, Int.reduceNeg, Int.reduceAdd, Int.reduceToNat, Int.reduceNe, Nat.reduceSub, Int.reducePow, Int.reduceMul, vb0, vb1, vb2, vb3, vb4, vb5, vb6, vb7, f_unicode_utf8_word___byte_, bytesD_get, byteD, List.getElem?_cons_succ, List.getElem?_cons_zero, W, wterm, Option.getD_some, Nat.reducePow]

/-- The first k bytes are below 128. -/
def asc (k : Nat) (p : List UInt8) : Prop := k ≤ p.length ∧ ∀ j, j < k → (p[j]?.getD 0).toNat < 128
theorem asc_zero (p : List UInt8) : asc 0 p := ⟨by omega, fun j hj => by omega⟩
theorem asc_add {k m : Nat} {p : List UInt8} (h : asc k p) (g : asc m (p.drop k)) : asc (k + m) p := by
  obtain ⟨h1, h2⟩ := h
  obtain ⟨g1, g2⟩ := g
  simp only [List.length_drop] at g1
  refine ⟨by omega, fun j hj => ?_⟩
  rcases Nat.lt_or_ge j k with hk | hk
  · exact h2 j hk
  · have := g2 (j - k) (by omega)
    rwa [List.getElem?_drop, show k + (j - k) = j by omega] at this
theorem asc_word {p : List UInt8} (h : 8 ≤ p.length) (hz : hi0 (W p)) : asc 8 p := by
  refine ⟨h, fun j hj => ?_⟩
  have hb := hi0_bit hz j hj
  simp only [W] at hb
  have o7 := or_bit hb
  have o6 := or_bit o7.1
  have o5 := or_bit o6.1
  have o4 := or_bit o5.1
  have o3 := or_bit o4.1
  have o2 := or_bit o3.1
  have o1 := or_bit o2.1
  have fin : (BitVec.ofInt 64 (wterm p j)).getLsbD (8 * j + 7) = false := by
    have : j = 0 ∨ j = 1 ∨ j = 2 ∨ j = 3 ∨ j = 4 ∨ j = 5 ∨ j = 6 ∨ j = 7 := by omega
    rcases this with rfl | rfl | rfl | rfl | rfl | rfl | rfl | rfl
    · exact o1.1
    · exact o1.2
    · exact o2.2
    · exact o3.2
    · exact o4.2
    · exact o5.2
    · exact o6.2
    · exact o7.2
  exact byte_bit hj fin
theorem hi0_or {x y : Int} (h : hi0 (bitsD .or .u64 x y)) : hi0 x ∧ hi0 y := by
  have e : ∀ z : Int, hi0 z ↔ BitVec.ofInt 64 z &&& BitVec.ofInt 64 9259542123273814144 = 0#64 := by
    intro z
    rw [← bv_and]
    constructor
    · intro h; rw [h]; rfl
    · intro h
      have : bitsD .and .u64 z 9259542123273814144 = IntKind.u64.wrap ((BitVec.ofInt 64 z &&& BitVec.ofInt 64 9259542123273814144).toNat : Int) := rfl
      rw [bv_and] at h
      rw [hi0, this, h]
      rfl
  rw [e, bv_or] at h
  rw [e, e]
  have key : ∀ i, (BitVec.ofInt 64 9259542123273814144).getLsbD i = false ∨ ((BitVec.ofInt 64 x).getLsbD i = false ∧ (BitVec.ofInt 64 y).getLsbD i = false) := by
    intro i
    have := congrArg (fun b : BitVec 64 => b.getLsbD i) h
    simp only [BitVec.getLsbD_and, BitVec.getLsbD_or, BitVec.getLsbD_zero] at this
    cases h1 : (BitVec.ofInt 64 9259542123273814144).getLsbD i with
    | false => exact Or.inl rfl
    | true => rw [h1] at this; right; simpa using this
  constructor <;> (apply BitVec.eq_of_getLsbD_eq; intro i hi; rw [BitVec.getLsbD_and, BitVec.getLsbD_zero]; rcases key i with h1 | ⟨h1, h2⟩ <;> first | (rw [h1, Bool.and_false]) | (rw [h1, Bool.false_and]) | (rw [h2, Bool.false_and]))

theorem runes_one {c : UInt8} {r : List UInt8} (h : c.toNat < 128) : runes (c :: r) = (runes r).map (· + 1) := by
  rw [runes_cons]; simp [chr, h]
theorem runes_asc : ∀ (k : Nat) (p : List UInt8), asc k p → runes p = (runes (p.drop k)).map (· + k)
  | 0, p, _ => by simp
  | k + 1, p, ⟨h1, h2⟩ => by
    cases p with
    | nil => simp at h1
    | cons c r =>
      have h0 := h2 0 (by omega)
      simp at h0
      rw [runes_one h0, List.drop_succ_cons, runes_asc k r ⟨by simp at h1; omega, fun j hj => by have := h2 (j + 1) (by omega); simpa using this⟩]
      cases runes (r.drop k) <;> simp [Nat.add_assoc]

def v_st (p : List UInt8) (extra : List (Nat × V)) : St := { env := (0, .d (.slice 1 (bytesD p))) :: extra, bx := [] }
theorem v19 : ∀ (n : Nat) (p : List UInt8), p.length ≤ n → p.length ≤ 140737488355328 → ∃ k, asc k p ∧ X (M false) (.loop l_unicode_utf8_Valid_19) (v_st p []) = some (.exit 2, v_st (p.drop k) [(69, .d (.bool false))]) := by
  intro n
  induction n with
  | zero =>
    intro p hp hm
    refine ⟨0, asc_zero p, loop_exit ?_ (by simp)⟩
    simp -implicitDefEqProofs (maxSteps := 1000000) (disch := omega) only [↓Int.reduceLT, ↓Int.reduceLE, ↓Int.reduceEq, ↓Nat.reduceEqDiff, Nat.reduceBEq, ↓reduceIte, St.toRS, restrict, initEnv, plainArgs, reduceCtorEq, Nat.reduceEqDiff, Nat.reduceAdd, Nat.reduceMul, Int.reduceLT, Int.reduceLE, Int.reduceEq, Int.reduceNeg, Int.reduceAdd, Int.reduceToNat, Int.reduceNe, Nat.reduceSub, Int.reducePow, Int.reduceMul, vb0, vb1, vb2, vb3, vb4, vb5, vb6, vb7, l_unicode_utf8_Valid_19, v_st, bytesD_length, List.drop_zero]
  | succ n ih =>
    intro p hp hm
    by_cases hs : p.length ≤ 32
    · refine ⟨0, asc_zero p, loop_exit ?_ (by simp)⟩
      simp -implicitDefEqProofs (maxSteps := 1000000) (disch := omega) only [↓Int.reduceLT, ↓Int.reduceLE, ↓Int.reduceEq, ↓Nat.reduceEqDiff, Nat.reduceBEq, ↓reduceIte, St.toRS, restrict, initEnv, plainArgs, reduceCtorEq, Nat.reduceEqDiff, Nat.reduceAdd, Nat.reduceMul, Int.reduceLT, Int.reduceLE, Int.reduceEq, Int.reduceNeg, Int.reduceAdd, Int.reduceToNat, Int.reduceNe, Nat.reduceSub, Int.reducePow, Int.reduceMul, vb0, vb1, vb2, vb3, vb4, vb5, vb6, vb7, l_unicode_utf8_Valid_19, v_st, bytesD_length, List.drop_zero]
    have w0 := word_spec p (by omega)
    have w1 := word_spec (p.drop 8) (by simp; omega)
    have w2 := word_spec (p.drop 16) (by simp; omega)
    have w3 := word_spec (p.drop 24) (by simp; omega)
    have tk : (bytesD p).take p.length = bytesD p := by rw [bytesD_take, List.take_length]
    by_cases hz : hi0 (bitsD .or .u64 (bitsD .or .u64 (W p) (W (p.drop 8))) (bitsD .or .u64 (W (p.drop 16)) (W (p.drop 24))))
    · have hz' := hz
      rw [hi0] at hz'
      have hr : X (M false) l_unicode_utf8_Valid_19 (v_st p []) = some (.norm, v_st (p.drop 32) []) := by
        simp -implicitDefEqProofs (maxSteps := 1000000) (disch := omega) only [↓Int.reduceLT, ↓Int.reduceLE, ↓Int.reduceEq, ↓Nat.reduceEqDiff, Nat.reduceBEq, ↓reduceIte, St.toRS, restrict, initEnv, plainArgs, reduceCtorEq, Nat.reduceEqDiff, Nat.reduceAdd, Nat.reduceMul, Int.reduceLT, Int.reduceLE, Int.reduceEq, Int.reduceNeg, Int.reduceAdd, Int.reduceToNat, Int.reduceNe, Nat.reduceSub, Int.reducePow, Int.reduceMul, vb0, vb1, vb2, vb3, vb4, vb5, vb6, vb7, l_unicode_utf8_Valid_19, v_st, bytesD_length, tk, bytesD_drop, w0, w1, w2, w3, hz']
      obtain ⟨a, b⟩ := hi0_or hz
      obtain ⟨z0, z1⟩ := hi0_or a
      obtain ⟨z2, z3⟩ := hi0_or b
      have a0 := asc_word (by omega) z0
      have a1 := asc_word (by simp; omega) z1
      have a2 := asc_word (by simp; omega) z2
      have a3 := asc_word (by simp; omega) z3
      have b1 := asc_add a0 a1
      have b2 := asc_add b1 a2
      have b3 := asc_add b2 a3
      obtain ⟨k, hk, hx⟩ := ih (p.drop 32) (by simp; omega) (by simp; omega)
      refine ⟨32 + k, asc_add b3 hk, ?_⟩
      rw [X_loop, hr]
      simp only [List.drop_drop] at hx
      exact hx
    · have hz' : ¬ (bitsD .and .u64 (bitsD .or .u64 (bitsD .or .u64 (W p) (W (p.drop 8))) (bitsD .or .u64 (W (p.drop 16)) (W (p.drop 24)))) 9259542123273814144 = 0) := hz
      refine ⟨0, asc_zero p, loop_exit ?_ (by simp)⟩
      simp -implicitDefEqProofs (maxSteps := 1000000) (disch := omega) only [↓Int.reduceLT, ↓Int.reduceLE, ↓Int.reduceEq, ↓Nat.reduceEqDiff, Nat.reduceBEq, ↓reduceIte, St.toRS, restrict, initEnv, plainArgs, reduceCtorEq, Nat.reduceEqDiff, Nat.reduceAdd, Nat.reduceMul, Int.reduceLT, Int.reduceLE, Int.reduceEq, Int.reduceNeg, Int.reduceAdd, Int.reduceToNat, Int.reduceNe, Nat.reduceSub, Int.reducePow, Int.reduceMul, vb0, vb1, vb2, vb3, vb4, vb5, vb6, vb7, l_unicode_utf8_Valid_19, v_st, bytesD_length, tk, bytesD_drop, w0, w1, w2, w3, hz', List.drop_zero]
end Go.Proofs.YtedncpnkbpbchaaDoor.U
