/-
  Characters in UTF-8: the plain step; a round of the reference's Runes: over data.
  How many characters: the plain count; what the reference's Runes answers: over data.
  unicode/utf8.Valid over data: eight bytes at once.
  unicode/utf8.Valid over data: a round.
  unicode/utf8.Valid over data: characters of more bytes than one; what it answers.
  unicode/utf8.Valid over data: characters of more bytes than one; what it answers.
  What utf8.Valid, quote.Valid and quote.Runes answer: over data.
-/
import Derived.Test.YtedncpnkbpbchaaGreatDoorFns
import Derived.Test.YtedncpnkbpbchaaGreatDoorViSet
set_option linter.unusedVariables false
set_option linter.unusedSimpArgs false
set_option maxRecDepth 100000
set_option maxHeartbeats 8000000
namespace Go.Proofs.YtedncpnkbpbchaaGreatDoor.U
open Go.Vi

def conB (d : UInt8) : Bool := decide (128 ≤ d.toNat ∧ d.toNat ≤ 191)
/-- The bytes behind the first one: the number; none: they are not of this form. -/
def cont : List UInt8 → Int → Option Int
  | [], v => some v
  | d :: r, v => if conB d then cont r (v * 64 + d.toNat - 128) else none
/-- May a number stand in so many bytes? -/
def okV (low w : Int) : Bool := decide (low ≤ w ∧ w ≤ 1114111 ∧ (w < 55296 ∨ 57343 < w))
def tailV (size : Nat) (v low : Int) (r : List UInt8) : Option Nat :=
  if r.length + 1 < size then none else
  match cont (r.take (size - 1)) v with
  | none => none
  | some w => if okV low w then some size else none
/-- How many bytes the first character has; none: there is no character. -/
def chr : List UInt8 → Option Nat
  | [] => none
  | c :: r =>
    if c.toNat < 128 then some 1
    else if c.toNat < 192 then none
    else if c.toNat < 224 then tailV 2 (c.toNat - 192) 128 r
    else if c.toNat < 240 then tailV 3 (c.toNat - 224) 2048 r
    else if c.toNat < 248 then tailV 4 (c.toNat - 240) 65536 r
    else none

def k_inv (b : List UInt8) (n i : Nat) : St := { env := [(0, .d (.slice 1 (bytesD b))), (3, .d (.int .i64 n)), (4, .d (.int .i64 i))], bx := [] }
def k_fail : Option (Ex × St) := some (.ret, { env := [(2, .d (.int .i64 (-1)))], bx := [] })
/-- The state of the inner loop. -/
def j_inv (b : List UInt8) (n i : Nat) (size v low : Int) (k : Nat) : St :=
  { env := [(0, .d (.slice 1 (bytesD b))), (3, .d (.int .i64 n)), (4, .d (.int .i64 i)), (6, .d (.int .i64 size)), (7, .d (.int .i64 v)), (8, .d (.int .i64 low)), (9, .d (.int .i64 k))], bx := [] }
def j_end (b : List UInt8) (n i : Nat) (size v low : Int) (k : Nat) : St :=
  { env := [(0, .d (.slice 1 (bytesD b))), (3, .d (.int .i64 n)), (4, .d (.int .i64 i)), (6, .d (.int .i64 size)), (7, .d (.int .i64 v)), (8, .d (.int .i64 low)), (9, .d (.int .i64 k)), (57, .d (.bool false))], bx := [] }

end Go.Proofs.YtedncpnkbpbchaaGreatDoor.U
namespace Go.Proofs.YtedncpnkbpbchaaGreatDoor.U
open Go.Vi

/-- How many characters; none: no UTF-8. -/
def runesF : Nat → List UInt8 → Option Nat
  | _, [] => some 0
  | 0, _ :: _ => none
  | n + 1, c :: r =>
    match chr (c :: r) with
    | none => none
    | some k => (runesF n ((c :: r).drop k)).map (· + 1)
def runes (b : List UInt8) : Option Nat := runesF b.length b

theorem tailV_some {size : Nat} {v low : Int} {r : List UInt8} {k : Nat} (h : tailV size v low r = some k) : k = size ∧ size ≤ r.length + 1 := by
  simp only [tailV] at h
  split at h
  · cases h
  · split at h
    · cases h
    · split at h
      · cases h; omega
      · cases h

theorem chr_pos {c : UInt8} {r : List UInt8} {k : Nat} (h : chr (c :: r) = some k) : 1 ≤ k ∧ k ≤ 4 ∧ k ≤ r.length + 1 := by
  simp only [chr] at h
  split at h
  · cases h; omega
  split at h
  · cases h
  split at h
  · have := tailV_some h; omega
  split at h
  · have := tailV_some h; omega
  split at h
  · have := tailV_some h; omega
  · cases h

theorem runesF_same : ∀ (n m : Nat) (l : List UInt8), l.length ≤ n → l.length ≤ m → runesF n l = runesF m l := by
  intro n
  induction n with
  | zero => intro m l h _; have : l = [] := List.eq_nil_of_length_eq_zero (by omega); subst this; cases m <;> rfl
  | succ n ih =>
    intro m l h hm
    cases l with
    | nil => cases m <;> rfl
    | cons c r =>
      cases m with
      | zero => simp at hm
      | succ m =>
        simp only [runesF]
        cases hk : chr (c :: r) with
        | none => rfl
        | some k =>
          obtain ⟨k1, k4, kl⟩ := chr_pos hk
          simp only [List.length_cons] at h hm
          simp only []
          rw [ih m _ (by simp; omega) (by simp; omega)]
theorem runes_nil : runes [] = some 0 := rfl
theorem runes_cons (c : UInt8) (r : List UInt8) : runes (c :: r) = match chr (c :: r) with
    | none => none
    | some k => (runes ((c :: r).drop k)).map (· + 1) := by
  simp only [runes, List.length_cons, runesF]
  cases hk : chr (c :: r) with
  | none => rfl
  | some k =>
    obtain ⟨k1, k4, kl⟩ := chr_pos hk
    simp only []
    rw [runesF_same _ ((c :: r).drop k).length _ (by simp; omega) (Nat.le_refl _)]

def k_end (b : List UInt8) (n : Nat) : St := { env := [(0, .d (.slice 1 (bytesD b))), (3, .d (.int .i64 n)), (4, .d (.int .i64 b.length)), (14, .d (.bool false))], bx := [] }
def runesN (b : List UInt8) : Int := match runes b with
  | none => -1
  | some n => n
end Go.Proofs.YtedncpnkbpbchaaGreatDoor.U
namespace Go.Proofs.YtedncpnkbpbchaaGreatDoor.U
open Go.Vi

def wterm (p : List UInt8) (j : Nat) : Int := (((p[j]?.getD 0).toNat * 2 ^ (8 * j) : Nat) : Int)
def W (p : List UInt8) : Int :=
  bitsD .or .u64 (bitsD .or .u64 (bitsD .or .u64 (bitsD .or .u64 (bitsD .or .u64 (bitsD .or .u64 (bitsD .or .u64 (wterm p 0) (wterm p 1)) (wterm p 2)) (wterm p 3)) (wterm p 4)) (wterm p 5)) (wterm p 6)) (wterm p 7)

theorem word_spec (p : List UInt8) (h : 8 ≤ p.length) : C M 86 [.d (.slice 1 (bytesD p))] = some (.d (.int .u64 (W p))) := by
  match p, h with
  | b0 :: b1 :: b2 :: b3 :: b4 :: b5 :: b6 :: b7 :: r, _ =>
    rw [c_fn (sf := f_unicode_utf8_word___byte_) rfl rfl ⟨rfl, rfl⟩]
    have l0 := b0.toNat_lt
    have l1 := b1.toNat_lt
    have l2 := b2.toNat_lt
    have l3 := b3.toNat_lt
    have l4 := b4.toNat_lt
    have l5 := b5.toNat_lt
    have l6 := b6.toNat_lt
    have l7 := b7.toNat_lt
    simp -implicitDefEqProofs (maxSteps := 1000000) (disch := omega) only [↓Int.reduceLT, ↓Int.reduceLE, ↓Int.reduceEq, ↓Nat.reduceEqDiff, Nat.reduceBEq, ↓reduceIte, St.toRS, restrict, initEnv, plainArgs, reduceCtorEq, Nat.reduceEqDiff, Nat.reduceAdd, Nat.reduceMul, Int.reduceLT, Int.reduceLE, Int.reduceEq, Int.reduceNeg, Int.reduceAdd, Int.reduceToNat, Int.reduceNe, Nat.reduceSub, Int.reducePow, Int.reduceMul, vb0, vb1, vb2, vb3, vb4, vb5, vb6, vb7, f_unicode_utf8_word___byte_, bytesD_get, byteD, List.getElem?_cons_succ, List.getElem?_cons_zero, W, wterm, Option.getD_some, Nat.reducePow]

/-- The first k bytes are below 128. -/
def asc (k : Nat) (p : List UInt8) : Prop := k ≤ p.length ∧ ∀ j, j < k → (p[j]?.getD 0).toNat < 128
theorem asc_zero (p : List UInt8) : asc 0 p := ⟨by omega, fun j hj => by omega⟩
theorem asc_add {k m : Nat} {p : List UInt8} (h : asc k p) (g : asc m (p.drop k)) : asc (k + m) p := by
  obtain ⟨h1, h2⟩ := h
  obtain ⟨g1, g2⟩ := g
  simp only [List.length_drop] at g1
  refine ⟨by omega, fun j hj => ?_⟩
  rcases Nat.lt_or_ge j k with hk | hk
  · exact h2 j hk
  · have := g2 (j - k) (by omega)
    rwa [List.getElem?_drop, show k + (j - k) = j by omega] at this
theorem asc_word {p : List UInt8} (h : 8 ≤ p.length) (hz : hi0 (W p)) : asc 8 p := by
  refine ⟨h, fun j hj => ?_⟩
  have hb := hi0_bit hz j hj
  simp only [W] at hb
  have o7 := or_bit hb
  have o6 := or_bit o7.1
  have o5 := or_bit o6.1
  have o4 := or_bit o5.1
  have o3 := or_bit o4.1
  have o2 := or_bit o3.1
  have o1 := or_bit o2.1
  have fin : (BitVec.ofInt 64 (wterm p j)).getLsbD (8 * j + 7) = false := by
    have : j = 0 ∨ j = 1 ∨ j = 2 ∨ j = 3 ∨ j = 4 ∨ j = 5 ∨ j = 6 ∨ j = 7 := by omega
    rcases this with rfl | rfl | rfl | rfl | rfl | rfl | rfl | rfl
    · exact o1.1
    · exact o1.2
    · exact o2.2
    · exact o3.2
    · exact o4.2
    · exact o5.2
    · exact o6.2
    · exact o7.2
  exact byte_bit hj fin
theorem hi0_or {x y : Int} (h : hi0 (bitsD .or .u64 x y)) : hi0 x ∧ hi0 y := by
  have e : ∀ z : Int, hi0 z ↔ BitVec.ofInt 64 z &&& BitVec.ofInt 64 9259542123273814144 = 0#64 := by
    intro z
    rw [← bv_and]
    constructor
    · intro h; rw [h]; rfl
    · intro h
      have : bitsD .and .u64 z 9259542123273814144 = IntKind.u64.wrap ((BitVec.ofInt 64 z &&& BitVec.ofInt 64 9259542123273814144).toNat : Int) := rfl
      rw [bv_and] at h
      rw [hi0, this, h]
      rfl
  rw [e, bv_or] at h
  rw [e, e]
  have key : ∀ i, (BitVec.ofInt 64 9259542123273814144).getLsbD i = false ∨ ((BitVec.ofInt 64 x).getLsbD i = false ∧ (BitVec.ofInt 64 y).getLsbD i = false) := by
    intro i
    have := congrArg (fun b : BitVec 64 => b.getLsbD i) h
    simp only [BitVec.getLsbD_and, BitVec.getLsbD_or, BitVec.getLsbD_zero] at this
    cases h1 : (BitVec.ofInt 64 9259542123273814144).getLsbD i with
    | false => exact Or.inl rfl
    | true => rw [h1] at this; right; simpa using this
  constructor <;> (apply BitVec.eq_of_getLsbD_eq; intro i hi; rw [BitVec.getLsbD_and, BitVec.getLsbD_zero]; rcases key i with h1 | ⟨h1, h2⟩ <;> first | (rw [h1, Bool.and_false]) | (rw [h1, Bool.false_and]) | (rw [h2, Bool.false_and]))

theorem runes_one {c : UInt8} {r : List UInt8} (h : c.toNat < 128) : runes (c :: r) = (runes r).map (· + 1) := by
  rw [runes_cons]; simp [chr, h]
theorem runes_asc : ∀ (k : Nat) (p : List UInt8), asc k p → runes p = (runes (p.drop k)).map (· + k)
  | 0, p, _ => by simp
  | k + 1, p, ⟨h1, h2⟩ => by
    cases p with
    | nil => simp at h1
    | cons c r =>
      have h0 := h2 0 (by omega)
      simp at h0
      rw [runes_one h0, List.drop_succ_cons, runes_asc k r ⟨by simp at h1; omega, fun j hj => by have := h2 (j + 1) (by omega); simpa using this⟩]
      cases runes (r.drop k) <;> simp [Nat.add_assoc]

def v_st (p : List UInt8) (extra : List (Nat × V)) : St := { env := (0, .d (.slice 1 (bytesD p))) :: extra, bx := [] }
theorem v19 : ∀ (n : Nat) (p : List UInt8), p.length ≤ n → p.length ≤ 140737488355328 → ∃ k, asc k p ∧ X M (.loop l_unicode_utf8_Valid_19) (v_st p []) = some (.exit 2, v_st (p.drop k) [(69, .d (.bool false))]) := by
  intro n
  induction n with
  | zero =>
    intro p hp hm
    refine ⟨0, asc_zero p, loop_exit ?_ (by simp)⟩
    simp -implicitDefEqProofs (maxSteps := 1000000) (disch := omega) only [↓Int.reduceLT, ↓Int.reduceLE, ↓Int.reduceEq, ↓Nat.reduceEqDiff, Nat.reduceBEq, ↓reduceIte, St.toRS, restrict, initEnv, plainArgs, reduceCtorEq, Nat.reduceEqDiff, Nat.reduceAdd, Nat.reduceMul, Int.reduceLT, Int.reduceLE, Int.reduceEq, Int.reduceNeg, Int.reduceAdd, Int.reduceToNat, Int.reduceNe, Nat.reduceSub, Int.reducePow, Int.reduceMul, vb0, vb1, vb2, vb3, vb4, vb5, vb6, vb7, l_unicode_utf8_Valid_19, v_st, bytesD_length, List.drop_zero]
  | succ n ih =>
    intro p hp hm
    by_cases hs : p.length ≤ 32
    · refine ⟨0, asc_zero p, loop_exit ?_ (by simp)⟩
      simp -implicitDefEqProofs (maxSteps := 1000000) (disch := omega) only [↓Int.reduceLT, ↓Int.reduceLE, ↓Int.reduceEq, ↓Nat.reduceEqDiff, Nat.reduceBEq, ↓reduceIte, St.toRS, restrict, initEnv, plainArgs, reduceCtorEq, Nat.reduceEqDiff, Nat.reduceAdd, Nat.reduceMul, Int.reduceLT, Int.reduceLE, Int.reduceEq, Int.reduceNeg, Int.reduceAdd, Int.reduceToNat, Int.reduceNe, Nat.reduceSub, Int.reducePow, Int.reduceMul, vb0, vb1, vb2, vb3, vb4, vb5, vb6, vb7, l_unicode_utf8_Valid_19, v_st, bytesD_length, List.drop_zero]
    have w0 := word_spec p (by omega)
    have w1 := word_spec (p.drop 8) (by simp; omega)
    have w2 := word_spec (p.drop 16) (by simp; omega)
    have w3 := word_spec (p.drop 24) (by simp; omega)
    have tk : (bytesD p).take p.length = bytesD p := by rw [bytesD_take, List.take_length]
    by_cases hz : hi0 (bitsD .or .u64 (bitsD .or .u64 (W p) (W (p.drop 8))) (bitsD .or .u64 (W (p.drop 16)) (W (p.drop 24))))
    · have hz' := hz
      rw [hi0] at hz'
      have hr : X M l_unicode_utf8_Valid_19 (v_st p []) = some (.norm, v_st (p.drop 32) []) := by
        simp -implicitDefEqProofs (maxSteps := 1000000) (disch := omega) only [↓Int.reduceLT, ↓Int.reduceLE, ↓Int.reduceEq, ↓Nat.reduceEqDiff, Nat.reduceBEq, ↓reduceIte, St.toRS, restrict, initEnv, plainArgs, reduceCtorEq, Nat.reduceEqDiff, Nat.reduceAdd, Nat.reduceMul, Int.reduceLT, Int.reduceLE, Int.reduceEq, Int.reduceNeg, Int.reduceAdd, Int.reduceToNat, Int.reduceNe, Nat.reduceSub, Int.reducePow, Int.reduceMul, vb0, vb1, vb2, vb3, vb4, vb5, vb6, vb7, l_unicode_utf8_Valid_19, v_st, bytesD_length, tk, bytesD_drop, w0, w1, w2, w3, hz']
      obtain ⟨a, b⟩ := hi0_or hz
      obtain ⟨z0, z1⟩ := hi0_or a
      obtain ⟨z2, z3⟩ := hi0_or b
      have a0 := asc_word (by omega) z0
      have a1 := asc_word (by simp; omega) z1
      have a2 := asc_word (by simp; omega) z2
      have a3 := asc_word (by simp; omega) z3
      have b1 := asc_add a0 a1
      have b2 := asc_add b1 a2
      have b3 := asc_add b2 a3
      obtain ⟨k, hk, hx⟩ := ih (p.drop 32) (by simp; omega) (by simp; omega)
      refine ⟨32 + k, asc_add b3 hk, ?_⟩
      rw [X_loop, hr]
      simp only [List.drop_drop] at hx
      exact hx
    · have hz' : ¬ (bitsD .and .u64 (bitsD .or .u64 (bitsD .or .u64 (W p) (W (p.drop 8))) (bitsD .or .u64 (W (p.drop 16)) (W (p.drop 24)))) 9259542123273814144 = 0) := hz
      refine ⟨0, asc_zero p, loop_exit ?_ (by simp)⟩
      simp -implicitDefEqProofs (maxSteps := 1000000) (disch := omega) only [↓Int.reduceLT, ↓Int.reduceLE, ↓Int.reduceEq, ↓Nat.reduceEqDiff, Nat.reduceBEq, ↓reduceIte, St.toRS, restrict, initEnv, plainArgs, reduceCtorEq, Nat.reduceEqDiff, Nat.reduceAdd, Nat.reduceMul, Int.reduceLT, Int.reduceLE, Int.reduceEq, Int.reduceNeg, Int.reduceAdd, Int.reduceToNat, Int.reduceNe, Nat.reduceSub, Int.reducePow, Int.reduceMul, vb0, vb1, vb2, vb3, vb4, vb5, vb6, vb7, l_unicode_utf8_Valid_19, v_st, bytesD_length, tk, bytesD_drop, w0, w1, w2, w3, hz', List.drop_zero]
end Go.Proofs.YtedncpnkbpbchaaGreatDoor.U
namespace Go.Proofs.YtedncpnkbpbchaaGreatDoor.U
open Go.Vi

theorem v_ascii (c : UInt8) (r : List UInt8) (hm : r.length + 1 ≤ 140737488355328) (hc : c.toNat < 128) (ex : List (Nat × V)) :
    ∃ k ex', asc k r ∧ X M l_unicode_utf8_Valid_1 (v_st (c :: r) ex) = some (.norm, v_st (r.drop k) ex') := by
  have g0 : (bytesD (c :: r))[0]? = some (byteD c) := rfl
  have d1 : (bytesD (c :: r)).drop 1 = bytesD r := rfl
  have hl : (bytesD (c :: r)).length = r.length + 1 := by simp [bytesD]
  have tk : (bytesD (c :: r)).take (r.length + 1) = bytesD (c :: r) := by rw [← hl, List.take_length]
  have tk1 : (bytesD r).take r.length = bytesD r := by rw [bytesD_take, List.take_length]
  by_cases h8 : r.length ≤ 8
  · refine ⟨0, [(31, .d (.bool false))], asc_zero r, ?_⟩
    simp -implicitDefEqProofs (maxSteps := 1000000) (disch := omega) only [↓Int.reduceLT, ↓Int.reduceLE, ↓Int.reduceEq, ↓Nat.reduceEqDiff, Nat.reduceBEq, ↓reduceIte, St.toRS, restrict, initEnv, plainArgs, reduceCtorEq, Nat.reduceEqDiff, Nat.reduceAdd, Nat.reduceMul, Int.reduceLT, Int.reduceLE, Int.reduceEq, Int.reduceNeg, Int.reduceAdd, Int.reduceToNat, Int.reduceNe, Nat.reduceSub, Int.reducePow, Int.reduceMul, vb0, vb1, vb2, vb3, vb4, vb5, vb6, vb7, l_unicode_utf8_Valid_1, v_st, g0, byteD, hl, tk, d1, bytesD_length, List.drop_zero]
  have w0 := word_spec r (by omega)
  by_cases z0 : hi0 (W r)
  case neg =>
    have z0' : ¬ (bitsD .and .u64 (W r) 9259542123273814144 = 0) := z0
    refine ⟨0, [(31, .d (.bool false))], asc_zero r, ?_⟩
    simp -implicitDefEqProofs (maxSteps := 1000000) (disch := omega) only [↓Int.reduceLT, ↓Int.reduceLE, ↓Int.reduceEq, ↓Nat.reduceEqDiff, Nat.reduceBEq, ↓reduceIte, St.toRS, restrict, initEnv, plainArgs, reduceCtorEq, Nat.reduceEqDiff, Nat.reduceAdd, Nat.reduceMul, Int.reduceLT, Int.reduceLE, Int.reduceEq, Int.reduceNeg, Int.reduceAdd, Int.reduceToNat, Int.reduceNe, Nat.reduceSub, Int.reducePow, Int.reduceMul, vb0, vb1, vb2, vb3, vb4, vb5, vb6, vb7, l_unicode_utf8_Valid_1, v_st, g0, byteD, hl, tk, d1, bytesD_length, List.drop_zero, w0, z0']
  have a0 := asc_word (by omega) z0
  have z0' : bitsD .and .u64 (W r) 9259542123273814144 = 0 := z0
  have tk8 : (bytesD (r.drop 8)).take (r.length - 8) = bytesD (r.drop 8) := by rw [bytesD_take, ← List.length_drop, List.take_length]
  by_cases h24 : r.length ≤ 24
  · refine ⟨8, [(46, .d (.bool false))], a0, ?_⟩
    simp -implicitDefEqProofs (maxSteps := 1000000) (disch := omega) only [↓Int.reduceLT, ↓Int.reduceLE, ↓Int.reduceEq, ↓Nat.reduceEqDiff, Nat.reduceBEq, ↓reduceIte, St.toRS, restrict, initEnv, plainArgs, reduceCtorEq, Nat.reduceEqDiff, Nat.reduceAdd, Nat.reduceMul, Int.reduceLT, Int.reduceLE, Int.reduceEq, Int.reduceNeg, Int.reduceAdd, Int.reduceToNat, Int.reduceNe, Nat.reduceSub, Int.reducePow, Int.reduceMul, vb0, vb1, vb2, vb3, vb4, vb5, vb6, vb7, l_unicode_utf8_Valid_1, v_st, g0, byteD, hl, tk, tk1, d1, bytesD_length, List.length_drop, w0, z0', bytesD_drop, tk8]
  have w1 := word_spec (r.drop 8) (by simp; omega)
  have w2 := word_spec (r.drop 16) (by simp; omega)
  by_cases z1 : hi0 (bitsD .or .u64 (W (r.drop 8)) (W (r.drop 16)))
  case neg =>
    have z1' : ¬ (bitsD .and .u64 (bitsD .or .u64 (W (r.drop 8)) (W (r.drop 16))) 9259542123273814144 = 0) := z1
    refine ⟨8, [(46, .d (.bool false))], a0, ?_⟩
    simp -implicitDefEqProofs (maxSteps := 1000000) (disch := omega) only [↓Int.reduceLT, ↓Int.reduceLE, ↓Int.reduceEq, ↓Nat.reduceEqDiff, Nat.reduceBEq, ↓reduceIte, St.toRS, restrict, initEnv, plainArgs, reduceCtorEq, Nat.reduceEqDiff, Nat.reduceAdd, Nat.reduceMul, Int.reduceLT, Int.reduceLE, Int.reduceEq, Int.reduceNeg, Int.reduceAdd, Int.reduceToNat, Int.reduceNe, Nat.reduceSub, Int.reducePow, Int.reduceMul, vb0, vb1, vb2, vb3, vb4, vb5, vb6, vb7, l_unicode_utf8_Valid_1, v_st, g0, byteD, hl, tk, tk1, d1, bytesD_length, List.length_drop, w0, z0', bytesD_drop, tk8, List.drop_drop, Nat.reduceAdd, w1, w2, z1']
  have z1' : bitsD .and .u64 (bitsD .or .u64 (W (r.drop 8)) (W (r.drop 16))) 9259542123273814144 = 0 := z1
  obtain ⟨y1, y2⟩ := hi0_or z1
  have a1 := asc_add a0 (asc_word (by simp; omega) y1)
  have a2 := asc_add a1 (asc_word (by simp; omega) y2)
  have tk24 : (bytesD (r.drop 24)).take (r.length - 24) = bytesD (r.drop 24) := by rw [bytesD_take, ← List.length_drop, List.take_length]
  obtain ⟨k, hk, hx⟩ := v19 (r.drop 24).length (r.drop 24) (Nat.le_refl _) (by simp; omega)
  refine ⟨24 + k, [(69, .d (.bool false))], asc_add a2 hk, ?_⟩
  simp only [v_st, List.drop_drop] at hx
  simp -implicitDefEqProofs (maxSteps := 1000000) (disch := omega) only [↓Int.reduceLT, ↓Int.reduceLE, ↓Int.reduceEq, ↓Nat.reduceEqDiff, Nat.reduceBEq, ↓reduceIte, St.toRS, restrict, initEnv, plainArgs, reduceCtorEq, Nat.reduceEqDiff, Nat.reduceAdd, Nat.reduceMul, Int.reduceLT, Int.reduceLE, Int.reduceEq, Int.reduceNeg, Int.reduceAdd, Int.reduceToNat, Int.reduceNe, Nat.reduceSub, Int.reducePow, Int.reduceMul, vb0, vb1, vb2, vb3, vb4, vb5, vb6, vb7, l_unicode_utf8_Valid_1, v_st, g0, byteD, hl, tk, tk1, d1, bytesD_length, List.length_drop, w0, z0', bytesD_drop, tk8, List.drop_drop, Nat.reduceAdd, w1, w2, z1', tk24, hx]
end Go.Proofs.YtedncpnkbpbchaaGreatDoor.U
namespace Go.Proofs.YtedncpnkbpbchaaGreatDoor.U
open Go.Vi

def inB (lo hi : Nat) (d : UInt8) : Bool := decide (lo ≤ d.toNat ∧ d.toNat ≤ hi)
def loB (n : Nat) : Nat := if n = 224 then 160 else if n = 240 then 144 else 128
def hiB (n : Nat) : Nat := if n = 237 then 159 else if n = 244 then 143 else 191
/-- How many bytes the first character has, by tables. -/
def chrT : List UInt8 → Option Nat
  | [] => none
  | c :: r =>
    if c.toNat < 128 then some 1
    else if c.toNat < 194 then none
    else if c.toNat < 224 then
      match r with
      | d :: _ => if inB (loB c.toNat) (hiB c.toNat) d then some 2 else none
      | _ => none
    else if c.toNat < 240 then
      match r with
      | d :: e :: _ => if inB (loB c.toNat) (hiB c.toNat) d && conB e then some 3 else none
      | _ => none
    else if c.toNat < 245 then
      match r with
      | d :: e :: f :: _ => if inB (loB c.toNat) (hiB c.toNat) d && conB e && conB f then some 4 else none
      | _ => none
    else none

theorem ite_some {p : Prop} [Decidable p] {b : Bool} {k : Nat} (h : p ↔ b = true) : (if p then some k else none) = if b then some k else (none : Option Nat) := by
  by_cases hp : p
  · rw [if_pos hp, h.1 hp]; rfl
  · have : b = false := by cases b with | true => exact absurd (h.2 rfl) hp | false => rfl
    rw [if_neg hp, this]; rfl

theorem loB_or (n : Nat) : (n = 224 ∧ loB n = 160) ∨ (n = 240 ∧ loB n = 144) ∨ (n ≠ 224 ∧ n ≠ 240 ∧ loB n = 128) := by
  simp only [loB]; split
  · simp [*]
  · split <;> simp [*]
theorem hiB_or (n : Nat) : (n = 237 ∧ hiB n = 159) ∨ (n = 244 ∧ hiB n = 143) ∨ (n ≠ 237 ∧ n ≠ 244 ∧ hiB n = 191) := by
  simp only [hiB]; split
  · simp [*]
  · split <;> simp [*]
theorem inB_T {lo hi : Nat} {d : UInt8} (h : lo ≤ d.toNat ∧ d.toNat ≤ hi) : inB lo hi d = true := by simpa [inB] using h
theorem inB_F {lo hi : Nat} {d : UInt8} (h : ¬ (lo ≤ d.toNat ∧ d.toNat ≤ hi)) : inB lo hi d = false := by simpa [inB] using h

theorem t2 (c d : UInt8) (r : List UInt8) (h1 : 192 ≤ c.toNat) (h2 : c.toNat < 224) : tailV 2 (c.toNat - 192) 128 (d :: r) = if c.toNat < 194 then none else if inB (loB c.toNat) (hiB c.toNat) d then some 2 else none := by
  have l1 := d.toNat_lt
  have o1 := loB_or c.toNat
  have o2 := hiB_or c.toNat
  generalize loB c.toNat = lo at *
  generalize hiB c.toNat = hi at *
  simp only [tailV, List.length_cons, show ¬ r.length + 1 + 1 < 2 by omega, if_false, List.take_succ_cons, List.take_zero, cont, Nat.add_one_sub_one, Nat.reduceSub]
  cases hd : conB d with
  | true =>
    simp only [if_true]
    simp only [conB, decide_eq_true_eq] at hd
    by_cases h3 : c.toNat < 194
    · have : okV 128 (((c.toNat : Int) - 192) * 64 + d.toNat - 128) = false := by simp only [okV, decide_eq_false_iff_not]; omega
      rw [this]; simp [h3]
    · have : okV 128 (((c.toNat : Int) - 192) * 64 + d.toNat - 128) = true := by simp only [okV, decide_eq_true_eq]; omega
      rw [this, inB_T (by omega)]; simp [h3]
  | false =>
    simp only [conB, decide_eq_false_iff_not] at hd
    rw [inB_F (by omega)]; simp

theorem t3 (c d e : UInt8) (r : List UInt8) (h1 : 224 ≤ c.toNat) (h2 : c.toNat < 240) : tailV 3 (c.toNat - 224) 2048 (d :: e :: r) = if inB (loB c.toNat) (hiB c.toNat) d && conB e then some 3 else none := by
  have l1 := d.toNat_lt
  have l2 := e.toNat_lt
  have o1 := loB_or c.toNat
  have o2 := hiB_or c.toNat
  generalize loB c.toNat = lo at *
  generalize hiB c.toNat = hi at *
  simp only [tailV, List.length_cons, show ¬ r.length + 1 + 1 + 1 < 3 by omega, if_false, List.take_succ_cons, List.take_zero, cont, Nat.reduceSub]
  cases he : conB e with
  | false => cases conB d <;> simp
  | true =>
    simp only [if_true, Bool.and_true]
    simp only [conB, decide_eq_true_eq] at he
    cases hd : conB d with
    | true =>
      simp only [if_true]
      simp only [conB, decide_eq_true_eq] at hd
      refine ite_some ?_
      simp only [okV, inB, decide_eq_true_eq]
      omega
    | false =>
      simp only [conB, decide_eq_false_iff_not] at hd
      rw [inB_F (by omega)]; simp

theorem t4 (c d e f : UInt8) (r : List UInt8) (h1 : 240 ≤ c.toNat) (h2 : c.toNat < 248) : tailV 4 (c.toNat - 240) 65536 (d :: e :: f :: r) = if c.toNat < 245 then (if inB (loB c.toNat) (hiB c.toNat) d && conB e && conB f then some 4 else none) else none := by
  have l1 := d.toNat_lt
  have l2 := e.toNat_lt
  have l3 := f.toNat_lt
  have o1 := loB_or c.toNat
  have o2 := hiB_or c.toNat
  generalize loB c.toNat = lo at *
  generalize hiB c.toNat = hi at *
  simp only [tailV, List.length_cons, show ¬ r.length + 1 + 1 + 1 + 1 < 4 by omega, if_false, List.take_succ_cons, List.take_zero, cont, Nat.reduceSub]
  cases hf : conB f with
  | false => cases conB d <;> cases conB e <;> simp
  | true =>
    cases he : conB e with
    | false => cases conB d <;> simp
    | true =>
      simp only [if_true, Bool.and_true]
      simp only [conB, decide_eq_true_eq] at he hf
      cases hd : conB d with
      | true =>
        simp only [if_true]
        simp only [conB, decide_eq_true_eq] at hd
        by_cases h3 : c.toNat < 245
        · simp only [h3, if_true]
          refine ite_some ?_
          simp only [okV, inB, decide_eq_true_eq]
          omega
        · have : okV 65536 (((((c.toNat : Int) - 240) * 64 + d.toNat - 128) * 64 + e.toNat - 128) * 64 + f.toNat - 128) = false := by simp only [okV, decide_eq_false_iff_not]; omega
          rw [this]; simp [h3]
      | false =>
        simp only [conB, decide_eq_false_iff_not] at hd
        rw [inB_F (by omega)]; simp

theorem tailV_short {size : Nat} {v low : Int} {r : List UInt8} (h : r.length + 1 < size) : tailV size v low r = none := by simp [tailV, h]

theorem chr_eq : ∀ l : List UInt8, chr l = chrT l
  | [] => rfl
  | c :: r => by
    simp only [chr, chrT]
    by_cases h128 : c.toNat < 128
    · simp only [h128, if_true]
    simp only [h128, if_false]
    by_cases h192 : c.toNat < 192
    · simp only [h192, show c.toNat < 194 by omega, if_true]
    simp only [h192, if_false]
    by_cases h224 : c.toNat < 224
    · simp only [h224, if_true]
      cases r with
      | nil => rw [tailV_short (by simp)]; simp
      | cons d r => rw [t2 c d r (by omega) h224]
    simp only [h224, show ¬ c.toNat < 194 by omega, if_false]
    by_cases h240 : c.toNat < 240
    · simp only [h240, if_true]
      match r with
      | [] => rw [tailV_short (by simp)]
      | [_] => rw [tailV_short (by simp)]
      | d :: e :: r => simp only [t3 c d e r (by omega) h240]
    simp only [h240, if_false]
    by_cases h248 : c.toNat < 248
    · simp only [h248, if_true]
      match r with
      | [] => rw [tailV_short (by simp)]; simp
      | [_] => rw [tailV_short (by simp)]; simp
      | [_, _] => rw [tailV_short (by simp)]; simp
      | d :: e :: f :: r => simp only [t4 c d e f r (by omega) h248]
    · simp only [h248, show ¬ c.toNat < 245 by omega, if_false]
end Go.Proofs.YtedncpnkbpbchaaGreatDoor.U
namespace Go.Proofs.YtedncpnkbpbchaaGreatDoor.U
open Go.Vi

def fz (n : Nat) : Int := firsts.getD n 0
def sz (n : Nat) : Int := if n < 194 then 1 else if n < 224 then 2 else if n < 240 then 3 else if n < 245 then 4 else 1
def szLo (n : Nat) : Nat := if n < 194 then 0 else if n < 245 then loB n else 0
def szHi (n : Nat) : Nat := if n < 194 then 0 else if n < 245 then hiB n else 0
theorem tbl : ∀ n : Fin 256, 128 ≤ n.val → firsts[n.val]? = some (fz n.val) ∧ bitsD .and .u8 (fz n.val) 7 = sz n.val ∧ 0 ≤ (fz n.val).fdiv 16 ∧ (fz n.val).fdiv 16 < 16 ∧
    ((flatPairs accepts).drop (((fz n.val).fdiv 16).toNat * 2)).take 2 = [(szLo n.val : Int), (szHi n.val : Int)] := by decide +kernel
def T0 : D := .agg (firsts.map (D.int .u8))
def T1 : D := .agg ((flatPairs accepts).map (D.int .u8))
theorem glob0 : M.glob 3 = some (.agg (firsts.map (D.int .u8))) := rfl
theorem glob1 : M.glob 4 = some (.agg ((flatPairs accepts).map (D.int .u8))) := rfl
theorem tab0 (c : UInt8) (h : 128 ≤ c.toNat) : sub (firsts.map (D.int .u8)) c.toNat none = some (.int .u8 (fz c.toNat)) := by
  have := (tbl ⟨c.toNat, c.toNat_lt⟩ h).1
  simp only [sub, List.getElem?_map, this, Option.map_some]
theorem tab1 (c : UInt8) (h : 128 ≤ c.toNat) : sub ((flatPairs accepts).map (D.int .u8)) (((fz c.toNat).fdiv 16).toNat * 2) (some 2) = some (.agg [.int .u8 (szLo c.toNat : Int), .int .u8 (szHi c.toNat : Int)]) := by
  obtain ⟨_, _, h0, h1, h2⟩ := tbl ⟨c.toNat, c.toNat_lt⟩ h
  simp only at h0 h1 h2
  have hl : ((flatPairs accepts).map (D.int .u8)).length = 32 := by rw [List.length_map]; rfl
  simp only [sub, hl]
  rw [if_pos (by omega), ← List.map_drop, ← List.map_take, h2]
  rfl
def v_false : Option (Ex × St) := some (.ret, { env := [(2, .d (.bool false))], bx := [] })
theorem sub_0 {a b : D} : sub [a, b] 0 none = some a := rfl
theorem sub_1 {a b : D} : sub [a, b] 1 none = some b := rfl
theorem sub_2 {a b : D} : sub [a, b] 0 (some 2) = some (.agg [a, b]) := rfl
theorem set_2 {a b c d : D} : setAt [a, b] 0 [c, d] = [c, d] := rfl

theorem chrT_cons (c : UInt8) (r : List UInt8) : (if c.toNat < 128 then some 1
    else if c.toNat < 194 then none
    else if c.toNat < 224 then
      match r with
      | d :: _ => if inB (loB c.toNat) (hiB c.toNat) d then some 2 else none
      | _ => none
    else if c.toNat < 240 then
      match r with
      | d :: e :: _ => if inB (loB c.toNat) (hiB c.toNat) d && conB e then some 3 else none
      | _ => none
    else if c.toNat < 245 then
      match r with
      | d :: e :: f :: _ => if inB (loB c.toNat) (hiB c.toNat) d && conB e && conB f then some 4 else none
      | _ => none
    else none) = chrT (c :: r) := rfl
theorem v_other (c : UInt8) (r : List UInt8) (hm : r.length + 1 ≤ 140737488355328) (hc : 128 ≤ c.toNat) (ex : List (Nat × V)) :
    match chrT (c :: r) with
    | none => X M l_unicode_utf8_Valid_1 (v_st (c :: r) ex) = v_false
    | some k => X M l_unicode_utf8_Valid_1 (v_st (c :: r) ex) = some (.norm, v_st ((c :: r).drop k) []) := by
  have hlt := c.toNat_lt
  have g0 : (bytesD (c :: r))[0]? = some (byteD c) := rfl
  have hl : (bytesD (c :: r)).length = r.length + 1 := by simp [bytesD]
  have tk : (bytesD (c :: r)).take (r.length + 1) = bytesD (c :: r) := by rw [← hl, List.take_length]
  obtain ⟨-, y2, y3, y4, -⟩ := tbl ⟨c.toNat, hlt⟩ hc
  have t0 := tab0 c hc
  have t1 := tab1 c hc
  simp only at y2 y3 y4
  generalize hz : fz c.toNat = z at *
  have y5 : ((z.fdiv 16).toNat : Int) = z.fdiv 16 := Int.toNat_of_nonneg y3
  generalize hq : z.fdiv 16 = q at *
  have bad : sz c.toNat = 1 → X M l_unicode_utf8_Valid_1 (v_st (c :: r) ex) = v_false := by
    intro h1
    rw [h1] at y2
    simp -implicitDefEqProofs (maxSteps := 1000000) (disch := omega) only [↓Int.reduceLT, ↓Int.reduceLE, ↓Int.reduceEq, ↓Nat.reduceEqDiff, Nat.reduceBEq, ↓reduceIte, St.toRS, restrict, initEnv, plainArgs, reduceCtorEq, Nat.reduceEqDiff, Nat.reduceAdd, Nat.reduceMul, Int.reduceLT, Int.reduceLE, Int.reduceEq, Int.reduceNeg, Int.reduceAdd, Int.reduceToNat, Int.reduceNe, Nat.reduceSub, Int.reducePow, Int.reduceMul, vb0, vb1, vb2, vb3, vb4, vb5, vb6, vb7, l_unicode_utf8_Valid_1, v_st, g0, byteD, hl, tk, glob0, glob1, t0, y2, hq, t1, set_2, v_false, e_sh_u8_4]
  by_cases h194 : c.toNat < 194
  · simp only [chrT, show ¬ c.toNat < 128 by omega, h194, if_true, if_false]
    exact bad (by simp [sz, h194])
  by_cases h245 : 245 ≤ c.toNat
  · have e : chrT (c :: r) = none := by simp only [chrT, show ¬ c.toNat < 128 by omega, h194, show ¬ c.toNat < 224 by omega, show ¬ c.toNat < 240 by omega, show ¬ c.toNat < 245 by omega, if_false]
    rw [e]
    exact bad (by simp [sz, h194, show ¬ c.toNat < 224 by omega, show ¬ c.toNat < 240 by omega, show ¬ c.toNat < 245 by omega])
  have eL : szLo c.toNat = loB c.toNat := by simp [szLo, h194, show c.toNat < 245 by omega]
  have eH : szHi c.toNat = hiB c.toNat := by simp [szHi, h194, show c.toNat < 245 by omega]
  rw [eL, eH] at t1
  have fin := chrT_cons c r
  generalize loB c.toNat = lo at *
  generalize hiB c.toNat = hi at *
  by_cases h224 : c.toNat < 224
  · skip
    simp only [show ¬ c.toNat < 128 by omega, h194, show c.toNat < 224 by omega, if_true, if_false] at fin
    have ys : sz c.toNat = 2 := by simp only [sz, h194, show c.toNat < 224 by omega, if_true, if_false]
    rw [ys] at y2
    match r, fin with
    | [], fin => 
      simp only at fin; rw [← fin]
      simp only [List.length_cons, List.length_nil] at hl tk hm
      simp -implicitDefEqProofs (maxSteps := 1000000) (disch := omega) only [↓Int.reduceLT, ↓Int.reduceLE, ↓Int.reduceEq, ↓Nat.reduceEqDiff, Nat.reduceBEq, ↓reduceIte, St.toRS, restrict, initEnv, plainArgs, reduceCtorEq, Nat.reduceEqDiff, Nat.reduceAdd, Nat.reduceMul, Int.reduceLT, Int.reduceLE, Int.reduceEq, Int.reduceNeg, Int.reduceAdd, Int.reduceToNat, Int.reduceNe, Nat.reduceSub, Int.reducePow, Int.reduceMul, vb0, vb1, vb2, vb3, vb4, vb5, vb6, vb7, l_unicode_utf8_Valid_1, v_st, g0, byteD, hl, tk, glob0, glob1, t0, y2, hq, t1, set_2, sub_0, sub_1, sub_2, e_sh_u8_4, v_false]
    | d :: r', fin =>
      simp only at fin; rw [← fin]
      simp only [List.length_cons] at hl tk hm
      have g1 : (bytesD (c :: d :: r'))[1]? = some (byteD d) := rfl
      have l1 := d.toNat_lt
      cases bd : inB lo hi d with
      | false =>
        simp only [Bool.false_and, Bool.and_false, Bool.false_eq_true, if_false]
        simp only [inB, conB, decide_eq_false_iff_not] at bd
        by_cases u1 : d.toNat < lo
        · simp -implicitDefEqProofs (maxSteps := 1000000) (disch := omega) only [↓Int.reduceLT, ↓Int.reduceLE, ↓Int.reduceEq, ↓Nat.reduceEqDiff, Nat.reduceBEq, ↓reduceIte, St.toRS, restrict, initEnv, plainArgs, reduceCtorEq, Nat.reduceEqDiff, Nat.reduceAdd, Nat.reduceMul, Int.reduceLT, Int.reduceLE, Int.reduceEq, Int.reduceNeg, Int.reduceAdd, Int.reduceToNat, Int.reduceNe, Nat.reduceSub, Int.reducePow, Int.reduceMul, vb0, vb1, vb2, vb3, vb4, vb5, vb6, vb7, l_unicode_utf8_Valid_1, v_st, g0, byteD, hl, tk, glob0, glob1, t0, y2, hq, t1, set_2, sub_0, sub_1, sub_2, e_sh_u8_4, g1, v_false]
        · simp -implicitDefEqProofs (maxSteps := 1000000) (disch := omega) only [↓Int.reduceLT, ↓Int.reduceLE, ↓Int.reduceEq, ↓Nat.reduceEqDiff, Nat.reduceBEq, ↓reduceIte, St.toRS, restrict, initEnv, plainArgs, reduceCtorEq, Nat.reduceEqDiff, Nat.reduceAdd, Nat.reduceMul, Int.reduceLT, Int.reduceLE, Int.reduceEq, Int.reduceNeg, Int.reduceAdd, Int.reduceToNat, Int.reduceNe, Nat.reduceSub, Int.reducePow, Int.reduceMul, vb0, vb1, vb2, vb3, vb4, vb5, vb6, vb7, l_unicode_utf8_Valid_1, v_st, g0, byteD, hl, tk, glob0, glob1, t0, y2, hq, t1, set_2, sub_0, sub_1, sub_2, e_sh_u8_4, g1, v_false]
      | true =>
        simp only [inB, conB, decide_eq_true_eq] at bd
        simp only [Bool.and_self, if_true]
        simp -implicitDefEqProofs (maxSteps := 1000000) (disch := omega) only [↓Int.reduceLT, ↓Int.reduceLE, ↓Int.reduceEq, ↓Nat.reduceEqDiff, Nat.reduceBEq, ↓reduceIte, St.toRS, restrict, initEnv, plainArgs, reduceCtorEq, Nat.reduceEqDiff, Nat.reduceAdd, Nat.reduceMul, Int.reduceLT, Int.reduceLE, Int.reduceEq, Int.reduceNeg, Int.reduceAdd, Int.reduceToNat, Int.reduceNe, Nat.reduceSub, Int.reducePow, Int.reduceMul, vb0, vb1, vb2, vb3, vb4, vb5, vb6, vb7, l_unicode_utf8_Valid_1, v_st, g0, byteD, hl, tk, glob0, glob1, t0, y2, hq, t1, set_2, sub_0, sub_1, sub_2, e_sh_u8_4, g1, bytesD_drop]
  by_cases h240 : c.toNat < 240
  · skip
    simp only [show ¬ c.toNat < 128 by omega, h194, show ¬ c.toNat < 224 by omega, show c.toNat < 240 by omega, if_true, if_false] at fin
    have ys : sz c.toNat = 3 := by simp only [sz, h194, show ¬ c.toNat < 224 by omega, show c.toNat < 240 by omega, if_true, if_false]
    rw [ys] at y2
    match r, fin with
    | [], fin => 
      simp only at fin; rw [← fin]
      simp only [List.length_cons, List.length_nil] at hl tk hm
      simp -implicitDefEqProofs (maxSteps := 1000000) (disch := omega) only [↓Int.reduceLT, ↓Int.reduceLE, ↓Int.reduceEq, ↓Nat.reduceEqDiff, Nat.reduceBEq, ↓reduceIte, St.toRS, restrict, initEnv, plainArgs, reduceCtorEq, Nat.reduceEqDiff, Nat.reduceAdd, Nat.reduceMul, Int.reduceLT, Int.reduceLE, Int.reduceEq, Int.reduceNeg, Int.reduceAdd, Int.reduceToNat, Int.reduceNe, Nat.reduceSub, Int.reducePow, Int.reduceMul, vb0, vb1, vb2, vb3, vb4, vb5, vb6, vb7, l_unicode_utf8_Valid_1, v_st, g0, byteD, hl, tk, glob0, glob1, t0, y2, hq, t1, set_2, sub_0, sub_1, sub_2, e_sh_u8_4, v_false]
    | [d], fin => 
      simp only at fin; rw [← fin]
      simp only [List.length_cons, List.length_nil] at hl tk hm
      simp -implicitDefEqProofs (maxSteps := 1000000) (disch := omega) only [↓Int.reduceLT, ↓Int.reduceLE, ↓Int.reduceEq, ↓Nat.reduceEqDiff, Nat.reduceBEq, ↓reduceIte, St.toRS, restrict, initEnv, plainArgs, reduceCtorEq, Nat.reduceEqDiff, Nat.reduceAdd, Nat.reduceMul, Int.reduceLT, Int.reduceLE, Int.reduceEq, Int.reduceNeg, Int.reduceAdd, Int.reduceToNat, Int.reduceNe, Nat.reduceSub, Int.reducePow, Int.reduceMul, vb0, vb1, vb2, vb3, vb4, vb5, vb6, vb7, l_unicode_utf8_Valid_1, v_st, g0, byteD, hl, tk, glob0, glob1, t0, y2, hq, t1, set_2, sub_0, sub_1, sub_2, e_sh_u8_4, v_false]
    | d :: e :: r', fin =>
      simp only at fin; rw [← fin]
      simp only [List.length_cons] at hl tk hm
      have g1 : (bytesD (c :: d :: e :: r'))[1]? = some (byteD d) := rfl
      have l1 := d.toNat_lt
      have g2 : (bytesD (c :: d :: e :: r'))[2]? = some (byteD e) := rfl
      have l2 := e.toNat_lt
      cases bd : inB lo hi d with
      | false =>
        simp only [Bool.false_and, Bool.and_false, Bool.false_eq_true, if_false]
        simp only [inB, conB, decide_eq_false_iff_not] at bd
        by_cases u1 : d.toNat < lo
        · simp -implicitDefEqProofs (maxSteps := 1000000) (disch := omega) only [↓Int.reduceLT, ↓Int.reduceLE, ↓Int.reduceEq, ↓Nat.reduceEqDiff, Nat.reduceBEq, ↓reduceIte, St.toRS, restrict, initEnv, plainArgs, reduceCtorEq, Nat.reduceEqDiff, Nat.reduceAdd, Nat.reduceMul, Int.reduceLT, Int.reduceLE, Int.reduceEq, Int.reduceNeg, Int.reduceAdd, Int.reduceToNat, Int.reduceNe, Nat.reduceSub, Int.reducePow, Int.reduceMul, vb0, vb1, vb2, vb3, vb4, vb5, vb6, vb7, l_unicode_utf8_Valid_1, v_st, g0, byteD, hl, tk, glob0, glob1, t0, y2, hq, t1, set_2, sub_0, sub_1, sub_2, e_sh_u8_4, g1, g2, v_false]
        · simp -implicitDefEqProofs (maxSteps := 1000000) (disch := omega) only [↓Int.reduceLT, ↓Int.reduceLE, ↓Int.reduceEq, ↓Nat.reduceEqDiff, Nat.reduceBEq, ↓reduceIte, St.toRS, restrict, initEnv, plainArgs, reduceCtorEq, Nat.reduceEqDiff, Nat.reduceAdd, Nat.reduceMul, Int.reduceLT, Int.reduceLE, Int.reduceEq, Int.reduceNeg, Int.reduceAdd, Int.reduceToNat, Int.reduceNe, Nat.reduceSub, Int.reducePow, Int.reduceMul, vb0, vb1, vb2, vb3, vb4, vb5, vb6, vb7, l_unicode_utf8_Valid_1, v_st, g0, byteD, hl, tk, glob0, glob1, t0, y2, hq, t1, set_2, sub_0, sub_1, sub_2, e_sh_u8_4, g1, g2, v_false]
      | true =>
        simp only [inB, conB, decide_eq_true_eq] at bd
        cases be : conB e with
        | false =>
          simp only [Bool.false_and, Bool.and_false, Bool.false_eq_true, if_false]
          simp only [inB, conB, decide_eq_false_iff_not] at be
          by_cases u1 : e.toNat < 128
          · simp -implicitDefEqProofs (maxSteps := 1000000) (disch := omega) only [↓Int.reduceLT, ↓Int.reduceLE, ↓Int.reduceEq, ↓Nat.reduceEqDiff, Nat.reduceBEq, ↓reduceIte, St.toRS, restrict, initEnv, plainArgs, reduceCtorEq, Nat.reduceEqDiff, Nat.reduceAdd, Nat.reduceMul, Int.reduceLT, Int.reduceLE, Int.reduceEq, Int.reduceNeg, Int.reduceAdd, Int.reduceToNat, Int.reduceNe, Nat.reduceSub, Int.reducePow, Int.reduceMul, vb0, vb1, vb2, vb3, vb4, vb5, vb6, vb7, l_unicode_utf8_Valid_1, v_st, g0, byteD, hl, tk, glob0, glob1, t0, y2, hq, t1, set_2, sub_0, sub_1, sub_2, e_sh_u8_4, g1, g2, v_false]
          · simp -implicitDefEqProofs (maxSteps := 1000000) (disch := omega) only [↓Int.reduceLT, ↓Int.reduceLE, ↓Int.reduceEq, ↓Nat.reduceEqDiff, Nat.reduceBEq, ↓reduceIte, St.toRS, restrict, initEnv, plainArgs, reduceCtorEq, Nat.reduceEqDiff, Nat.reduceAdd, Nat.reduceMul, Int.reduceLT, Int.reduceLE, Int.reduceEq, Int.reduceNeg, Int.reduceAdd, Int.reduceToNat, Int.reduceNe, Nat.reduceSub, Int.reducePow, Int.reduceMul, vb0, vb1, vb2, vb3, vb4, vb5, vb6, vb7, l_unicode_utf8_Valid_1, v_st, g0, byteD, hl, tk, glob0, glob1, t0, y2, hq, t1, set_2, sub_0, sub_1, sub_2, e_sh_u8_4, g1, g2, v_false]
        | true =>
          simp only [inB, conB, decide_eq_true_eq] at be
          simp only [Bool.and_self, if_true]
          simp -implicitDefEqProofs (maxSteps := 1000000) (disch := omega) only [↓Int.reduceLT, ↓Int.reduceLE, ↓Int.reduceEq, ↓Nat.reduceEqDiff, Nat.reduceBEq, ↓reduceIte, St.toRS, restrict, initEnv, plainArgs, reduceCtorEq, Nat.reduceEqDiff, Nat.reduceAdd, Nat.reduceMul, Int.reduceLT, Int.reduceLE, Int.reduceEq, Int.reduceNeg, Int.reduceAdd, Int.reduceToNat, Int.reduceNe, Nat.reduceSub, Int.reducePow, Int.reduceMul, vb0, vb1, vb2, vb3, vb4, vb5, vb6, vb7, l_unicode_utf8_Valid_1, v_st, g0, byteD, hl, tk, glob0, glob1, t0, y2, hq, t1, set_2, sub_0, sub_1, sub_2, e_sh_u8_4, g1, g2, bytesD_drop]
  simp only [show ¬ c.toNat < 128 by omega, h194, show ¬ c.toNat < 224 by omega, show ¬ c.toNat < 240 by omega, show c.toNat < 245 by omega, if_true, if_false] at fin
  have ys : sz c.toNat = 4 := by simp only [sz, h194, show ¬ c.toNat < 224 by omega, show ¬ c.toNat < 240 by omega, show c.toNat < 245 by omega, if_true, if_false]
  rw [ys] at y2
  match r, fin with
  | [], fin => 
    simp only at fin; rw [← fin]
    simp only [List.length_cons, List.length_nil] at hl tk hm
    simp -implicitDefEqProofs (maxSteps := 1000000) (disch := omega) only [↓Int.reduceLT, ↓Int.reduceLE, ↓Int.reduceEq, ↓Nat.reduceEqDiff, Nat.reduceBEq, ↓reduceIte, St.toRS, restrict, initEnv, plainArgs, reduceCtorEq, Nat.reduceEqDiff, Nat.reduceAdd, Nat.reduceMul, Int.reduceLT, Int.reduceLE, Int.reduceEq, Int.reduceNeg, Int.reduceAdd, Int.reduceToNat, Int.reduceNe, Nat.reduceSub, Int.reducePow, Int.reduceMul, vb0, vb1, vb2, vb3, vb4, vb5, vb6, vb7, l_unicode_utf8_Valid_1, v_st, g0, byteD, hl, tk, glob0, glob1, t0, y2, hq, t1, set_2, sub_0, sub_1, sub_2, e_sh_u8_4, v_false]
  | [d], fin => 
    simp only at fin; rw [← fin]
    simp only [List.length_cons, List.length_nil] at hl tk hm
    simp -implicitDefEqProofs (maxSteps := 1000000) (disch := omega) only [↓Int.reduceLT, ↓Int.reduceLE, ↓Int.reduceEq, ↓Nat.reduceEqDiff, Nat.reduceBEq, ↓reduceIte, St.toRS, restrict, initEnv, plainArgs, reduceCtorEq, Nat.reduceEqDiff, Nat.reduceAdd, Nat.reduceMul, Int.reduceLT, Int.reduceLE, Int.reduceEq, Int.reduceNeg, Int.reduceAdd, Int.reduceToNat, Int.reduceNe, Nat.reduceSub, Int.reducePow, Int.reduceMul, vb0, vb1, vb2, vb3, vb4, vb5, vb6, vb7, l_unicode_utf8_Valid_1, v_st, g0, byteD, hl, tk, glob0, glob1, t0, y2, hq, t1, set_2, sub_0, sub_1, sub_2, e_sh_u8_4, v_false]
  | [d, e], fin => 
    simp only at fin; rw [← fin]
    simp only [List.length_cons, List.length_nil] at hl tk hm
    simp -implicitDefEqProofs (maxSteps := 1000000) (disch := omega) only [↓Int.reduceLT, ↓Int.reduceLE, ↓Int.reduceEq, ↓Nat.reduceEqDiff, Nat.reduceBEq, ↓reduceIte, St.toRS, restrict, initEnv, plainArgs, reduceCtorEq, Nat.reduceEqDiff, Nat.reduceAdd, Nat.reduceMul, Int.reduceLT, Int.reduceLE, Int.reduceEq, Int.reduceNeg, Int.reduceAdd, Int.reduceToNat, Int.reduceNe, Nat.reduceSub, Int.reducePow, Int.reduceMul, vb0, vb1, vb2, vb3, vb4, vb5, vb6, vb7, l_unicode_utf8_Valid_1, v_st, g0, byteD, hl, tk, glob0, glob1, t0, y2, hq, t1, set_2, sub_0, sub_1, sub_2, e_sh_u8_4, v_false]
  | d :: e :: f :: r', fin =>
    simp only at fin; rw [← fin]
    simp only [List.length_cons] at hl tk hm
    have g1 : (bytesD (c :: d :: e :: f :: r'))[1]? = some (byteD d) := rfl
    have l1 := d.toNat_lt
    have g2 : (bytesD (c :: d :: e :: f :: r'))[2]? = some (byteD e) := rfl
    have l2 := e.toNat_lt
    have g3 : (bytesD (c :: d :: e :: f :: r'))[3]? = some (byteD f) := rfl
    have l3 := f.toNat_lt
    cases bd : inB lo hi d with
    | false =>
      simp only [Bool.false_and, Bool.and_false, Bool.false_eq_true, if_false]
      simp only [inB, conB, decide_eq_false_iff_not] at bd
      by_cases u1 : d.toNat < lo
      · simp -implicitDefEqProofs (maxSteps := 1000000) (disch := omega) only [↓Int.reduceLT, ↓Int.reduceLE, ↓Int.reduceEq, ↓Nat.reduceEqDiff, Nat.reduceBEq, ↓reduceIte, St.toRS, restrict, initEnv, plainArgs, reduceCtorEq, Nat.reduceEqDiff, Nat.reduceAdd, Nat.reduceMul, Int.reduceLT, Int.reduceLE, Int.reduceEq, Int.reduceNeg, Int.reduceAdd, Int.reduceToNat, Int.reduceNe, Nat.reduceSub, Int.reducePow, Int.reduceMul, vb0, vb1, vb2, vb3, vb4, vb5, vb6, vb7, l_unicode_utf8_Valid_1, v_st, g0, byteD, hl, tk, glob0, glob1, t0, y2, hq, t1, set_2, sub_0, sub_1, sub_2, e_sh_u8_4, g1, g2, g3, v_false]
      · simp -implicitDefEqProofs (maxSteps := 1000000) (disch := omega) only [↓Int.reduceLT, ↓Int.reduceLE, ↓Int.reduceEq, ↓Nat.reduceEqDiff, Nat.reduceBEq, ↓reduceIte, St.toRS, restrict, initEnv, plainArgs, reduceCtorEq, Nat.reduceEqDiff, Nat.reduceAdd, Nat.reduceMul, Int.reduceLT, Int.reduceLE, Int.reduceEq, Int.reduceNeg, Int.reduceAdd, Int.reduceToNat, Int.reduceNe, Nat.reduceSub, Int.reducePow, Int.reduceMul, vb0, vb1, vb2, vb3, vb4, vb5, vb6, vb7, l_unicode_utf8_Valid_1, v_st, g0, byteD, hl, tk, glob0, glob1, t0, y2, hq, t1, set_2, sub_0, sub_1, sub_2, e_sh_u8_4, g1, g2, g3, v_false]
    | true =>
      simp only [inB, conB, decide_eq_true_eq] at bd
      cases be : conB e with
      | false =>
        simp only [Bool.false_and, Bool.and_false, Bool.false_eq_true, if_false]
        simp only [inB, conB, decide_eq_false_iff_not] at be
        by_cases u1 : e.toNat < 128
        · simp -implicitDefEqProofs (maxSteps := 1000000) (disch := omega) only [↓Int.reduceLT, ↓Int.reduceLE, ↓Int.reduceEq, ↓Nat.reduceEqDiff, Nat.reduceBEq, ↓reduceIte, St.toRS, restrict, initEnv, plainArgs, reduceCtorEq, Nat.reduceEqDiff, Nat.reduceAdd, Nat.reduceMul, Int.reduceLT, Int.reduceLE, Int.reduceEq, Int.reduceNeg, Int.reduceAdd, Int.reduceToNat, Int.reduceNe, Nat.reduceSub, Int.reducePow, Int.reduceMul, vb0, vb1, vb2, vb3, vb4, vb5, vb6, vb7, l_unicode_utf8_Valid_1, v_st, g0, byteD, hl, tk, glob0, glob1, t0, y2, hq, t1, set_2, sub_0, sub_1, sub_2, e_sh_u8_4, g1, g2, g3, v_false]
        · simp -implicitDefEqProofs (maxSteps := 1000000) (disch := omega) only [↓Int.reduceLT, ↓Int.reduceLE, ↓Int.reduceEq, ↓Nat.reduceEqDiff, Nat.reduceBEq, ↓reduceIte, St.toRS, restrict, initEnv, plainArgs, reduceCtorEq, Nat.reduceEqDiff, Nat.reduceAdd, Nat.reduceMul, Int.reduceLT, Int.reduceLE, Int.reduceEq, Int.reduceNeg, Int.reduceAdd, Int.reduceToNat, Int.reduceNe, Nat.reduceSub, Int.reducePow, Int.reduceMul, vb0, vb1, vb2, vb3, vb4, vb5, vb6, vb7, l_unicode_utf8_Valid_1, v_st, g0, byteD, hl, tk, glob0, glob1, t0, y2, hq, t1, set_2, sub_0, sub_1, sub_2, e_sh_u8_4, g1, g2, g3, v_false]
      | true =>
        simp only [inB, conB, decide_eq_true_eq] at be
        cases bf : conB f with
        | false =>
          simp only [Bool.false_and, Bool.and_false, Bool.false_eq_true, if_false]
          simp only [inB, conB, decide_eq_false_iff_not] at bf
          by_cases u1 : f.toNat < 128
          · simp -implicitDefEqProofs (maxSteps := 1000000) (disch := omega) only [↓Int.reduceLT, ↓Int.reduceLE, ↓Int.reduceEq, ↓Nat.reduceEqDiff, Nat.reduceBEq, ↓reduceIte, St.toRS, restrict, initEnv, plainArgs, reduceCtorEq, Nat.reduceEqDiff, Nat.reduceAdd, Nat.reduceMul, Int.reduceLT, Int.reduceLE, Int.reduceEq, Int.reduceNeg, Int.reduceAdd, Int.reduceToNat, Int.reduceNe, Nat.reduceSub, Int.reducePow, Int.reduceMul, vb0, vb1, vb2, vb3, vb4, vb5, vb6, vb7, l_unicode_utf8_Valid_1, v_st, g0, byteD, hl, tk, glob0, glob1, t0, y2, hq, t1, set_2, sub_0, sub_1, sub_2, e_sh_u8_4, g1, g2, g3, v_false]
          · simp -implicitDefEqProofs (maxSteps := 1000000) (disch := omega) only [↓Int.reduceLT, ↓Int.reduceLE, ↓Int.reduceEq, ↓Nat.reduceEqDiff, Nat.reduceBEq, ↓reduceIte, St.toRS, restrict, initEnv, plainArgs, reduceCtorEq, Nat.reduceEqDiff, Nat.reduceAdd, Nat.reduceMul, Int.reduceLT, Int.reduceLE, Int.reduceEq, Int.reduceNeg, Int.reduceAdd, Int.reduceToNat, Int.reduceNe, Nat.reduceSub, Int.reducePow, Int.reduceMul, vb0, vb1, vb2, vb3, vb4, vb5, vb6, vb7, l_unicode_utf8_Valid_1, v_st, g0, byteD, hl, tk, glob0, glob1, t0, y2, hq, t1, set_2, sub_0, sub_1, sub_2, e_sh_u8_4, g1, g2, g3, v_false]
        | true =>
          simp only [inB, conB, decide_eq_true_eq] at bf
          simp only [Bool.and_self, if_true]
          simp -implicitDefEqProofs (maxSteps := 1000000) (disch := omega) only [↓Int.reduceLT, ↓Int.reduceLE, ↓Int.reduceEq, ↓Nat.reduceEqDiff, Nat.reduceBEq, ↓reduceIte, St.toRS, restrict, initEnv, plainArgs, reduceCtorEq, Nat.reduceEqDiff, Nat.reduceAdd, Nat.reduceMul, Int.reduceLT, Int.reduceLE, Int.reduceEq, Int.reduceNeg, Int.reduceAdd, Int.reduceToNat, Int.reduceNe, Nat.reduceSub, Int.reducePow, Int.reduceMul, vb0, vb1, vb2, vb3, vb4, vb5, vb6, vb7, l_unicode_utf8_Valid_1, v_st, g0, byteD, hl, tk, glob0, glob1, t0, y2, hq, t1, set_2, sub_0, sub_1, sub_2, e_sh_u8_4, g1, g2, g3, bytesD_drop]
end Go.Proofs.YtedncpnkbpbchaaGreatDoor.U
namespace Go.Proofs.YtedncpnkbpbchaaGreatDoor.U
open Go.Vi

theorem isSome_map {α β : Type} (o : Option α) (f : α → β) : (o.map f).isSome = o.isSome := by cases o <;> rfl
theorem v_loop : ∀ (n : Nat) (p : List UInt8) (ex : List (Nat × V)), p.length ≤ n → p.length ≤ 140737488355328 →
    X M (.loop l_unicode_utf8_Valid_1) (v_st p ex) = if (runes p).isSome then some (.exit 0, v_st [] [(15, .d (.bool false))]) else v_false := by
  intro n
  induction n with
  | zero =>
    intro p ex hn hm
    obtain rfl : p = [] := List.eq_nil_of_length_eq_zero (by omega)
    simp only [runes_nil, Option.isSome_some, if_true]
    refine loop_exit ?_ (by simp)
    simp -implicitDefEqProofs (maxSteps := 1000000) (disch := omega) only [↓Int.reduceLT, ↓Int.reduceLE, ↓Int.reduceEq, ↓Nat.reduceEqDiff, Nat.reduceBEq, ↓reduceIte, St.toRS, restrict, initEnv, plainArgs, reduceCtorEq, Nat.reduceEqDiff, Nat.reduceAdd, Nat.reduceMul, Int.reduceLT, Int.reduceLE, Int.reduceEq, Int.reduceNeg, Int.reduceAdd, Int.reduceToNat, Int.reduceNe, Nat.reduceSub, Int.reducePow, Int.reduceMul, vb0, vb1, vb2, vb3, vb4, vb5, vb6, vb7, l_unicode_utf8_Valid_1, v_st, bytesD_length]
  | succ n ih =>
    intro p ex hn hm
    cases p with
    | nil =>
      simp only [runes_nil, Option.isSome_some, if_true]
      refine loop_exit ?_ (by simp)
      simp -implicitDefEqProofs (maxSteps := 1000000) (disch := omega) only [↓Int.reduceLT, ↓Int.reduceLE, ↓Int.reduceEq, ↓Nat.reduceEqDiff, Nat.reduceBEq, ↓reduceIte, St.toRS, restrict, initEnv, plainArgs, reduceCtorEq, Nat.reduceEqDiff, Nat.reduceAdd, Nat.reduceMul, Int.reduceLT, Int.reduceLE, Int.reduceEq, Int.reduceNeg, Int.reduceAdd, Int.reduceToNat, Int.reduceNe, Nat.reduceSub, Int.reducePow, Int.reduceMul, vb0, vb1, vb2, vb3, vb4, vb5, vb6, vb7, l_unicode_utf8_Valid_1, v_st, bytesD_length]
    | cons c r =>
      simp only [List.length_cons] at hn hm
      by_cases h128 : c.toNat < 128
      · obtain ⟨k, ex', hk, hx⟩ := v_ascii c r hm h128 ex
        rw [X_loop, hx, runes_one h128, runes_asc k r hk, isSome_map, isSome_map]
        exact ih (r.drop k) ex' (by simp; omega) (by simp; omega)
      · have ho := v_other c r hm (by omega) ex
        rw [runes_cons, chr_eq]
        cases hk : chrT (c :: r) with
        | none =>
          rw [hk] at ho
          simp only [Option.isSome_none, Bool.false_eq_true, if_false]
          exact loop_exit ho (by simp [v_false])
        | some k =>
          rw [hk] at ho
          rw [← chr_eq] at hk
          obtain ⟨k1, k4, kl⟩ := chr_pos hk
          simp only [isSome_map] at ho ⊢
          rw [X_loop, ho]
          exact ih ((c :: r).drop k) [] (by simp; omega) (by simp; omega)

theorem uvalid_spec (p : List UInt8) (hm : p.length ≤ 140737488355328) : C M 69 [.d (.slice 1 (bytesD p))] = some (.d (.bool (runes p).isSome)) := by
  rw [c_fn (sf := f_unicode_utf8_Valid) rfl rfl ⟨rfl, rfl⟩]
  have hl := v_loop p.length p [] (Nat.le_refl _) hm
  have tk : (bytesD p).take p.length = bytesD p := by rw [bytesD_take, List.take_length]
  simp only [v_st] at hl
  cases hs : (runes p).isSome with
  | true =>
    simp only [hs, if_true] at hl
    simp -implicitDefEqProofs (maxSteps := 1000000) (disch := omega) only [↓Int.reduceLT, ↓Int.reduceLE, ↓Int.reduceEq, ↓Nat.reduceEqDiff, Nat.reduceBEq, ↓reduceIte, St.toRS, restrict, initEnv, plainArgs, reduceCtorEq, Nat.reduceEqDiff, Nat.reduceAdd, Nat.reduceMul, Int.reduceLT, Int.reduceLE, Int.reduceEq, Int.reduceNeg, Int.reduceAdd, Int.reduceToNat, Int.reduceNe, Nat.reduceSub, Int.reducePow, Int.reduceMul, vb0, vb1, vb2, vb3, vb4, vb5, vb6, vb7, f_unicode_utf8_Valid, bytesD_length, tk, List.drop_zero, hl]
  | false =>
    simp only [hs, v_false, Bool.false_eq_true, if_false] at hl
    simp -implicitDefEqProofs (maxSteps := 1000000) (disch := omega) only [↓Int.reduceLT, ↓Int.reduceLE, ↓Int.reduceEq, ↓Nat.reduceEqDiff, Nat.reduceBEq, ↓reduceIte, St.toRS, restrict, initEnv, plainArgs, reduceCtorEq, Nat.reduceEqDiff, Nat.reduceAdd, Nat.reduceMul, Int.reduceLT, Int.reduceLE, Int.reduceEq, Int.reduceNeg, Int.reduceAdd, Int.reduceToNat, Int.reduceNe, Nat.reduceSub, Int.reducePow, Int.reduceMul, vb0, vb1, vb2, vb3, vb4, vb5, vb6, vb7, f_unicode_utf8_Valid, bytesD_length, tk, List.drop_zero, hl]

theorem valid_spec (p : List UInt8) (hm : p.length ≤ 140737488355328) : C M 50 [.d (.slice 1 (bytesD p))] = some (.d (.bool (runes p).isSome)) := by
  rw [c_fn (sf := f_quote_Valid) rfl rfl ⟨rfl, rfl⟩]
  have h := uvalid_spec p hm
  simp -implicitDefEqProofs (maxSteps := 1000000) (disch := omega) only [↓Int.reduceLT, ↓Int.reduceLE, ↓Int.reduceEq, ↓Nat.reduceEqDiff, Nat.reduceBEq, ↓reduceIte, St.toRS, restrict, initEnv, plainArgs, reduceCtorEq, Nat.reduceEqDiff, Nat.reduceAdd, Nat.reduceMul, Int.reduceLT, Int.reduceLE, Int.reduceEq, Int.reduceNeg, Int.reduceAdd, Int.reduceToNat, Int.reduceNe, Nat.reduceSub, Int.reducePow, Int.reduceMul, vb0, vb1, vb2, vb3, vb4, vb5, vb6, vb7, f_quote_Valid, h]

end Go.Proofs.YtedncpnkbpbchaaGreatDoor.U
