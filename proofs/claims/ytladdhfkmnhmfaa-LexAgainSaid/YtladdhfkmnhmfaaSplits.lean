/-
  The law LexSplits, over data.
-/
import Derived.Test.YtladdhfkmnhmfaaRsplit2
set_option linter.unusedVariables false
set_option linter.unusedSimpArgs false
set_option maxRecDepth 100000
set_option maxHeartbeats 8000000
namespace Go.Proofs.Ytladdhfkmnhmfaa
open Go.Vi
variable {m : Int}

theorem awake_run (m : Int) : call (M m) 10000 n_law4_awake [] = some (.d (.bool true)) := by kernel_rfl
theorem awake_data : C (M m) 8 [] = some (.d (.bool true)) := C_call (awake_run m)

theorem words_small (t : List UInt8) (ws : List Wd) (h : splitL t = .inr ws) : ws.length ≤ 65537 := by
  unfold splitL at h
  split at h
  · cases h
  · have gen : ∀ (f : Nat) (r : List UInt8) (p : Nat × Nat) (ws : List Wd), wordsF f r p = .inr ws → ws.length ≤ r.length + 1 := by
      intro f
      induction f with
      | zero => intro r p ws h; simp [wordsF] at h
      | succ f ih =>
        intro r p ws h
        simp only [wordsF] at h
        cases hk : tok r with
        | done => rw [hk] at h; cases h; simp
        | fault e => rw [hk] at h; cases h
        | blank k =>
          rw [hk] at h
          have := ih _ _ _ h
          simp only [List.length_drop] at this
          omega
        | word kind len n bs b =>
          rw [hk] at h
          have hl := tok_word hk
          simp only at h
          cases hw : wordsF f (r.drop len) (adv (r.take len) p) with
          | inl e => rw [hw] at h; cases h
          | inr ws' =>
            rw [hw] at h
            cases h
            have := ih _ _ _ hw
            simp only [List.length_drop, List.length_cons] at this ⊢
            omega
    have := gen _ _ _ _ h
    omega

def sm_st (a b : List D) (i : Nat) : St := { env := [(0, .d (.slice 6 a)), (1, .d (.slice 6 b)), (5, .d (.int .i64 i))], bx := [] }
theorem same_loop (ws : List Wd) (hl : ws.length ≤ 65537) : X (M m) (.loop l_law4_same_1) (sm_st (ws.map wdD) (ws.map wdD) 0) = some (.exit 0, { env := [(0, .d (.slice 6 (ws.map wdD))), (1, .d (.slice 6 (ws.map wdD))), (5, .d (.int .i64 ws.length)), (16, .d (.bool false))], bx := [] }) := by
  have hm : (ws.map wdD).length = ws.length := by simp
  refine Go.Vi.loop_to (M := M m) (b := l_law4_same_1) (inv := fun i => sm_st (ws.map wdD) (ws.map wdD) i) (n := ws.length) (fun i hi => ?_) ?_ 0 (by omega)
  · have hg : (ws.map wdD)[i]? = some (wdD ws[i]) := by simp [hi]
    generalize ws[i] = w at hg
    simp only [wdD] at hg
    generalize ws.map wdD = W at *
    simp -implicitDefEqProofs (maxSteps := 1000000) (disch := omega) only [↓Int.reduceLT, ↓Int.reduceLE, ↓Int.reduceEq, ↓Nat.reduceEqDiff, Nat.reduceBEq, ↓reduceIte, St.toRS, restrict, initEnv, plainArgs, reduceCtorEq, Nat.reduceEqDiff, Nat.reduceAdd, Nat.reduceMul, Int.reduceLT, Int.reduceLE, Int.reduceEq, Int.reduceNeg, Int.reduceAdd, Int.reduceToNat, Int.reduceNe, Nat.reduceSub, Int.reducePow, Int.reduceMul, vb0, vb1, vb2, vb3, vb4, vb5, vb6, vb7, l_law4_same_1, sm_st, hg, hm, setAt, List.set_cons_succ, List.set_cons_zero, sub, List.getElem?_cons_zero, List.getElem?_cons_succ, e_cstrB]
  · refine loop_exit ?_ (by simp)
    simp -implicitDefEqProofs (maxSteps := 1000000) (disch := omega) only [↓Int.reduceLT, ↓Int.reduceLE, ↓Int.reduceEq, ↓Nat.reduceEqDiff, Nat.reduceBEq, ↓reduceIte, St.toRS, restrict, initEnv, plainArgs, reduceCtorEq, Nat.reduceEqDiff, Nat.reduceAdd, Nat.reduceMul, Int.reduceLT, Int.reduceLE, Int.reduceEq, Int.reduceNeg, Int.reduceAdd, Int.reduceToNat, Int.reduceNe, Nat.reduceSub, Int.reducePow, Int.reduceMul, vb0, vb1, vb2, vb3, vb4, vb5, vb6, vb7, l_law4_same_1, sm_st, hm]
theorem same_spec (ws : List Wd) (hl : ws.length ≤ 65537) : C (M m) 9 [.d (.slice 6 (ws.map wdD)), .d (.slice 6 (ws.map wdD))] = some (.d (.bool true)) := by
  rw [c_fn (sf := f_law4_same) rfl rfl ⟨rfl, rfl⟩]
  have hx := same_loop (m := m) ws hl
  simp only [sm_st, Int.cast_ofNat_Int] at hx
  have hm : (ws.map wdD).length = ws.length := by simp
  generalize ws.map wdD = W at *
  simp -implicitDefEqProofs (maxSteps := 1000000) (disch := omega) only [↓Int.reduceLT, ↓Int.reduceLE, ↓Int.reduceEq, ↓Nat.reduceEqDiff, Nat.reduceBEq, ↓reduceIte, St.toRS, restrict, initEnv, plainArgs, reduceCtorEq, Nat.reduceEqDiff, Nat.reduceAdd, Nat.reduceMul, Int.reduceLT, Int.reduceLE, Int.reduceEq, Int.reduceNeg, Int.reduceAdd, Int.reduceToNat, Int.reduceNe, Nat.reduceSub, Int.reducePow, Int.reduceMul, vb0, vb1, vb2, vb3, vb4, vb5, vb6, vb7, f_law4_same, hm, hx]

theorem splits_data (t : List UInt8) (hb : t.length ≤ 9223372036854775807) : C (M m) n_law4_LexSplits [.d (.str t)] = some (.d (.bool true)) := by
  rw [c_fn (sf := f_law4_LexSplits) rfl rfl ⟨rfl, rfl⟩]
  have s1 := split_spec (m := m) t hb
  have s2 := rsplit_spec (m := m) t hb
  have s3 := awake_data (m := m)
  cases hs : splitL t with
  | inl e =>
    obtain ⟨e, l, c⟩ := e
    have s4 := same_spec (m := m) [] (by simp)
    simp only [hs, wordsD, faultD, List.map_nil] at s1 s2 s4
    simp -implicitDefEqProofs (maxSteps := 1000000) (disch := omega) only [↓Int.reduceLT, ↓Int.reduceLE, ↓Int.reduceEq, ↓Nat.reduceEqDiff, Nat.reduceBEq, ↓reduceIte, St.toRS, restrict, initEnv, plainArgs, reduceCtorEq, Nat.reduceEqDiff, Nat.reduceAdd, Nat.reduceMul, Int.reduceLT, Int.reduceLE, Int.reduceEq, Int.reduceNeg, Int.reduceAdd, Int.reduceToNat, Int.reduceNe, Nat.reduceSub, Int.reducePow, Int.reduceMul, vb0, vb1, vb2, vb3, vb4, vb5, vb6, vb7, f_law4_LexSplits, s1, s2, s3, s4, List.getElem?_cons_zero, List.getElem?_cons_succ, setAt, List.set_cons_succ, List.set_cons_zero, sub, List.drop_zero, List.take_succ_cons, List.take_zero, sameInts]
  | inr ws =>
    have s4 := same_spec (m := m) ws (words_small t ws hs)
    simp only [hs, wordsD, faultD] at s1 s2
    simp -implicitDefEqProofs (maxSteps := 1000000) (disch := omega) only [↓Int.reduceLT, ↓Int.reduceLE, ↓Int.reduceEq, ↓Nat.reduceEqDiff, Nat.reduceBEq, ↓reduceIte, St.toRS, restrict, initEnv, plainArgs, reduceCtorEq, Nat.reduceEqDiff, Nat.reduceAdd, Nat.reduceMul, Int.reduceLT, Int.reduceLE, Int.reduceEq, Int.reduceNeg, Int.reduceAdd, Int.reduceToNat, Int.reduceNe, Nat.reduceSub, Int.reducePow, Int.reduceMul, vb0, vb1, vb2, vb3, vb4, vb5, vb6, vb7, f_law4_LexSplits, s1, s2, s3, s4, List.getElem?_cons_zero, List.getElem?_cons_succ, setAt, List.set_cons_succ, List.set_cons_zero, sub, List.drop_zero, List.take_succ_cons, List.take_zero, sameInts]
end Go.Proofs.Ytladdhfkmnhmfaa
