/-
  How many characters: the plain count; what the reference's Runes answers: over data.
-/
import Derived.Test.YtedncpnkbpbchaaDoorChr
set_option linter.unusedVariables false
set_option linter.unusedSimpArgs false
set_option maxRecDepth 100000
set_option maxHeartbeats 8000000
namespace Go.Proofs.YtedncpnkbpbchaaDoor.U
open Go.Vi

/-- How many characters; none: no UTF-8. -/
def runesF : Nat → List UInt8 → Option Nat
  | _, [] => some 0
  | 0, _ :: _ => none
  | n + 1, c :: r =>
    match chr (c :: r) with
    | none => none
    | some k => (runesF n ((c :: r).drop k)).map (· + 1)
def runes (b : List UInt8) : Option Nat := runesF b.length b

theorem tailV_some {size : Nat} {v low : Int} {r : List UInt8} {k : Nat} (h : tailV size v low r = some k) : k = size ∧ size ≤ r.length + 1 := by
  simp only [tailV] at h
  split at h
  · cases h
  · split at h
    · cases h
    · split at h
      · cases h; omega
      · cases h

theorem chr_pos {c : UInt8} {r : List UInt8} {k : Nat} (h : chr (c :: r) = some k) : 1 ≤ k ∧ k ≤ 4 ∧ k ≤ r.length + 1 := by
  simp only [chr] at h
  split at h
  · cases h; omega
  split at h
  · cases h
  split at h
  · have := tailV_some h; omega
  split at h
  · have := tailV_some h; omega
  split at h
  · have := tailV_some h; omega
  · cases h

theorem runesF_same : ∀ (n m : Nat) (l : List UInt8), l.length ≤ n → l.length ≤ m → runesF n l = runesF m l := by
  intro n
  induction n with
  | zero => intro m l h _; have : l = [] := List.eq_nil_of_length_eq_zero (by omega); subst this; cases m <;> rfl
  | succ n ih =>
    intro m l h hm
    cases l with
    | nil => cases m <;> rfl
    | cons c r =>
      cases m with
      | zero => simp at hm
      | succ m =>
        simp only [runesF]
        cases hk : chr (c :: r) with
        | none => rfl
        | some k =>
          obtain ⟨k1, k4, kl⟩ := chr_pos hk
          simp only [List.length_cons] at h hm
          simp only []
          rw [ih m _ (by simp; omega) (by simp; omega)]
theorem runes_nil : runes [] = some 0 := rfl
theorem runes_cons (c : UInt8) (r : List UInt8) : runes (c :: r) = match chr (c :: r) with
    | none => none
    | some k => (runes ((c :: r).drop k)).map (· + 1) := by
  simp only [runes, List.length_cons, runesF]
  cases hk : chr (c :: r) with
  | none => rfl
  | some k =>
    obtain ⟨k1, k4, kl⟩ := chr_pos hk
    simp only []
    rw [runesF_same _ ((c :: r).drop k).length _ (by simp; omega) (Nat.le_refl _)]

def k_end (b : List UInt8) (n : Nat) : St := { env := [(0, .d (.slice 1 (bytesD b))), (3, .d (.int .i64 n)), (4, .d (.int .i64 b.length)), (14, .d (.bool false))], bx := [] }
theorem k_loop (b : List UInt8) (hb : b.length ≤ 140737488355328) : ∀ (m n i : Nat), n ≤ i → i ≤ b.length → b.length - i ≤ m →
    X (M false) (.loop l_ref2_Runes_1) (k_inv b n i) = match runes (b.drop i) with
      | none => k_fail
      | some c => some (.exit 0, k_end b (n + c)) := by
  intro m
  induction m with
  | zero =>
    intro n i hn hi hm
    obtain rfl : i = b.length := by omega
    rw [List.drop_length, runes_nil]
    refine loop_exit ?_ (by simp)
    simp -implicitDefEqProofs (maxSteps := 1000000) (disch := omega) only [↓Int.reduceLT, ↓Int.reduceLE, ↓Int.reduceEq, ↓Nat.reduceEqDiff, Nat.reduceBEq, ↓reduceIte, St.toRS, restrict, initEnv, plainArgs, reduceCtorEq, Nat.reduceEqDiff, Nat.reduceAdd, Nat.reduceMul, Int.reduceLT, Int.reduceLE, Int.reduceEq, Int.reduceNeg, Int.reduceAdd, Int.reduceToNat, Int.reduceNe, Nat.reduceSub, Int.reducePow, Int.reduceMul, vb0, vb1, vb2, vb3, vb4, vb5, vb6, vb7, l_ref2_Runes_1, k_inv, k_end, bytesD_length, Nat.add_zero]
  | succ m ih =>
    intro n i hn hi hm
    rcases Nat.lt_or_ge i b.length with hlt | hge
    · have hr := k_round b n i hb (by omega) hlt
      have hd : b.drop i = b[i] :: b.drop (i + 1) := List.drop_eq_getElem_cons hlt
      rw [hd, runes_cons, ← hd]
      cases hk : chr (b.drop i) with
      | none =>
        rw [hk] at hr
        exact loop_exit hr (by simp)
      | some k =>
        rw [hk] at hr
        obtain ⟨k1, k4, kl⟩ := chr_pos (hd ▸ hk)
        simp only [List.length_drop] at kl
        rw [X_loop, hr]
        have := ih (n + 1) (i + k) (by omega) (by omega) (by omega)
        simp only [List.drop_drop]
        cases hR : runes (b.drop (i + k)) with
        | none => rw [hR] at this; exact this
        | some c => rw [hR] at this; simp only [Option.map_some]; rw [show n + (c + 1) = n + 1 + c by omega]; exact this
    · obtain rfl : i = b.length := by omega
      rw [List.drop_length, runes_nil]
      refine loop_exit ?_ (by simp)
      simp -implicitDefEqProofs (maxSteps := 1000000) (disch := omega) only [↓Int.reduceLT, ↓Int.reduceLE, ↓Int.reduceEq, ↓Nat.reduceEqDiff, Nat.reduceBEq, ↓reduceIte, St.toRS, restrict, initEnv, plainArgs, reduceCtorEq, Nat.reduceEqDiff, Nat.reduceAdd, Nat.reduceMul, Int.reduceLT, Int.reduceLE, Int.reduceEq, Int.reduceNeg, Int.reduceAdd, Int.reduceToNat, Int.reduceNe, Nat.reduceSub, Int.reducePow, Int.reduceMul, vb0, vb1, vb2, vb3, vb4, vb5, vb6, vb7, l_ref2_Runes_1, k_inv, k_end, bytesD_length, Nat.add_zero]

def runesN (b : List UInt8) : Int := match runes b with
  | none => -1
  | some n => n
theorem rrunes_spec (b : List UInt8) (hb : b.length ≤ 140737488355328) : C (M false) n_ref2_Runes [.d (.slice 1 (bytesD b))] = some (.d (.int .i64 (runesN b))) := by
  rw [c_fn (sf := f_ref2_Runes) rfl rfl ⟨rfl, rfl⟩]
  have hl := k_loop b hb b.length 0 0 (by omega) (by omega) (by omega)
  simp only [List.drop_zero, k_inv, Int.cast_ofNat_Int, Nat.zero_add] at hl
  cases hR : runes b with
  | none => simp only [hR, k_fail] at hl; simp -implicitDefEqProofs (maxSteps := 1000000) (disch := omega) only [↓Int.reduceLT, ↓Int.reduceLE, ↓Int.reduceEq, ↓Nat.reduceEqDiff, Nat.reduceBEq, ↓reduceIte, St.toRS, restrict, initEnv, plainArgs, reduceCtorEq, Nat.reduceEqDiff, Nat.reduceAdd, Nat.reduceMul, Int.reduceLT, Int.reduceLE, Int.reduceEq, Int.reduceNeg, Int.reduceAdd, Int.reduceToNat, Int.reduceNe, Nat.reduceSub, Int.reducePow, Int.reduceMul, vb0, vb1, vb2, vb3, vb4, vb5, vb6, vb7, f_ref2_Runes, hl, runesN, hR]
  | some n => simp only [hR, k_end] at hl; simp -implicitDefEqProofs (maxSteps := 1000000) (disch := omega) only [↓Int.reduceLT, ↓Int.reduceLE, ↓Int.reduceEq, ↓Nat.reduceEqDiff, Nat.reduceBEq, ↓reduceIte, St.toRS, restrict, initEnv, plainArgs, reduceCtorEq, Nat.reduceEqDiff, Nat.reduceAdd, Nat.reduceMul, Int.reduceLT, Int.reduceLE, Int.reduceEq, Int.reduceNeg, Int.reduceAdd, Int.reduceToNat, Int.reduceNe, Nat.reduceSub, Int.reducePow, Int.reduceMul, vb0, vb1, vb2, vb3, vb4, vb5, vb6, vb7, f_ref2_Runes, hl, runesN, hR]
end Go.Proofs.YtedncpnkbpbchaaDoor.U
