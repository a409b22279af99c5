/-
  The law LexAgain, over data.
-/
import Derived.Test.YtladdhfkmnhmfaaAgain
set_option linter.unusedVariables false
set_option linter.unusedSimpArgs false
set_option maxRecDepth 100000
set_option maxHeartbeats 8000000
namespace Go.Proofs.Ytladdhfkmnhmfaa
open Go.Vi
variable {m : Int}

theorem joinL_append (g : Nat → Nat) : ∀ (a b : List Wd) (k : Nat), joinL g k (a ++ b) = joinL g k a ++ joinL g (k + a.length) b
  | [], b, k => by simp [joinL]
  | w :: a, b, k => by
    simp only [List.cons_append, joinL, List.length_cons]
    rw [joinL_append g a b (k + 1), show k + 1 + a.length = k + (a.length + 1) by omega]
    simp
theorem sep_len (k : Nat) : (sepL k).length ≤ 11 := by
  match k with
  | 0 => decide
  | 1 => decide
  | 2 => decide
  | k + 3 => simp [sepL]
theorem joinL_len (g : Nat → Nat) : ∀ (a : List Wd) (k : Nat), (∀ w ∈ a, w.s.length ≤ 65536) → (joinL g k a).length ≤ a.length * 65547
  | [], k, h => by simp [joinL]
  | w :: a, k, h => by
    have h1 := h w (by simp)
    have h2 := sep_len (g k)
    have h3 := joinL_len g a (k + 1) fun x hx => h x (by simp [hx])
    simp only [joinL, List.length_append, List.length_cons]
    omega
theorem word_len : ∀ (f : Nat) (r : List UInt8) (p : Nat × Nat) (ws : List Wd), wordsF f r p = .inr ws → ∀ w ∈ ws, w.s.length ≤ r.length := by
  intro f
  induction f with
  | zero => intro r p ws h; simp [wordsF] at h
  | succ f ih =>
    intro r p ws h
    simp only [wordsF] at h
    cases hk : tok r with
    | done => rw [hk] at h; cases h; intro w hw; simp at hw; subst hw; simp
    | fault e => rw [hk] at h; cases h
    | blank k =>
      rw [hk] at h
      intro w hw
      have := ih _ _ _ h w hw
      simp only [List.length_drop] at this
      omega
    | word kind len n bs b =>
      rw [hk] at h
      simp only at h
      cases hw : wordsF f (r.drop len) (adv (r.take len) p) with
      | inl e => rw [hw] at h; cases h
      | inr ws1 =>
        rw [hw] at h
        cases h
        intro w hm
        rcases List.mem_cons.1 hm with rfl | hm
        · simp; omega
        · have := ih _ _ _ hw w hm
          simp only [List.length_drop] at this
          omega

/-! ### Alike -/
theorem like_spec (xs ws : List Wd) (hx : ws.length ≤ 65537) (hl : xs.length = ws.length) (h : ∀ (k : Nat) w, ws[k]? = some w → ∃ w' : Wd, xs[k]? = some w' ∧ likeW w' w) :
    C (M m) 12 [.d (.slice 6 (xs.map wdD)), .d (.slice 6 (ws.map wdD))] = some (.d (.bool true)) := by
  rw [c_fn (sf := f_law4_like) rfl rfl ⟨rfl, rfl⟩]
  have hm : (ws.map wdD).length = ws.length := by simp
  have hmx : (xs.map wdD).length = ws.length := by simp [hl]
  have loop : X (M m) (.loop l_law4_like_1) (sm_st (xs.map wdD) (ws.map wdD) 0) = some (.exit 0, { env := [(0, .d (.slice 6 (xs.map wdD))), (1, .d (.slice 6 (ws.map wdD))), (5, .d (.int .i64 ws.length)), (14, .d (.bool false))], bx := [] }) := by
    refine Go.Vi.loop_to (M := M m) (b := l_law4_like_1) (inv := fun i => sm_st (xs.map wdD) (ws.map wdD) i) (n := ws.length) (fun i hi => ?_) ?_ 0 (by omega)
    · have hw : ws[i]? = some ws[i] := by simp [hi]
      obtain ⟨w', hw', h1, h2, h3, h4, h5⟩ := h i _ hw
      have hg : (ws.map wdD)[i]? = some (wdD ws[i]) := by rw [List.getElem?_map, hw]; rfl
      have hg' : (xs.map wdD)[i]? = some (wdD w') := by rw [List.getElem?_map, hw']; rfl
      generalize ws[i] = w at *
      simp only [wdD, h1, h2, h3, h4, h5] at hg hg'
      generalize ws.map wdD = W at *
      generalize xs.map wdD = Y at *
      simp -implicitDefEqProofs (maxSteps := 1000000) (disch := omega) only [↓Int.reduceLT, ↓Int.reduceLE, ↓Int.reduceEq, ↓Nat.reduceEqDiff, Nat.reduceBEq, ↓reduceIte, St.toRS, restrict, initEnv, plainArgs, reduceCtorEq, Nat.reduceEqDiff, Nat.reduceAdd, Nat.reduceMul, Int.reduceLT, Int.reduceLE, Int.reduceEq, Int.reduceNeg, Int.reduceAdd, Int.reduceToNat, Int.reduceNe, Nat.reduceSub, Int.reducePow, Int.reduceMul, vb0, vb1, vb2, vb3, vb4, vb5, vb6, vb7, l_law4_like_1, sm_st, hg, hg', hm, hmx, sub, List.getElem?_cons_zero, List.getElem?_cons_succ, e_cstrB]
    · refine loop_exit ?_ (by simp)
      simp -implicitDefEqProofs (maxSteps := 1000000) (disch := omega) only [↓Int.reduceLT, ↓Int.reduceLE, ↓Int.reduceEq, ↓Nat.reduceEqDiff, Nat.reduceBEq, ↓reduceIte, St.toRS, restrict, initEnv, plainArgs, reduceCtorEq, Nat.reduceEqDiff, Nat.reduceAdd, Nat.reduceMul, Int.reduceLT, Int.reduceLE, Int.reduceEq, Int.reduceNeg, Int.reduceAdd, Int.reduceToNat, Int.reduceNe, Nat.reduceSub, Int.reducePow, Int.reduceMul, vb0, vb1, vb2, vb3, vb4, vb5, vb6, vb7, l_law4_like_1, sm_st, hm, hmx]
  simp only [sm_st, Int.cast_ofNat_Int] at loop
  generalize ws.map wdD = W at *
  generalize xs.map wdD = Y at *
  simp -implicitDefEqProofs (maxSteps := 1000000) (disch := omega) only [↓Int.reduceLT, ↓Int.reduceLE, ↓Int.reduceEq, ↓Nat.reduceEqDiff, Nat.reduceBEq, ↓reduceIte, St.toRS, restrict, initEnv, plainArgs, reduceCtorEq, Nat.reduceEqDiff, Nat.reduceAdd, Nat.reduceMul, Int.reduceLT, Int.reduceLE, Int.reduceEq, Int.reduceNeg, Int.reduceAdd, Int.reduceToNat, Int.reduceNe, Nat.reduceSub, Int.reducePow, Int.reduceMul, vb0, vb1, vb2, vb3, vb4, vb5, vb6, vb7, f_law4_like, hm, hmx, loop]

/-! ### The loop that lays words one behind the other -/
def markN (b : List UInt8) (i : Nat) : Nat := if b.length = 0 then 0 else (b[i % b.length]?.getD 0).toNat % 4
def ag_st (b : List UInt8) (W : List D) (s t : List UInt8) (i : Nat) : St :=
  { env := [(1, .d (.slice 1 (bytesD b))), (5, .d (.slice 6 W)), (7, .d (.str s)), (8, .d (.str t)), (9, .d (.int .i64 i))], bx := [] }
theorem ag_round (b : List UInt8) (W : List D) (s t : List UInt8) (i : Nat) (w : Wd) (hW : W.length ≤ 65537) (hi : i < W.length) (hs : s.length ≤ 4300000000) (ht : t.length ≤ 4300000000) (hw : w.s.length ≤ 65536) (hg : W[i]? = some (wdD w)) :
    X (M m) l_law4_LexAgain_5 (ag_st b W s t i) = some (.norm, ag_st b W (s ++ (w.s ++ sepL 0)) (t ++ (w.s ++ sepL (markN b i))) (i + 1)) := by
  simp only [wdD] at hg
  have F : ∀ (x : List UInt8), x.length ≤ 11 → (s ++ w.s).length + x.length ≤ 9223372036854775807 ∧ (t ++ w.s).length + x.length ≤ 9223372036854775807 := by
    intro x hx; simp only [List.length_append]; omega
  have f0 := F [32] (by decide)
  have f1 := F [10] (by decide)
  have f2 := F [47, 42, 32, 42, 32, 47, 32, 34, 32, 42, 47] (by decide)
  have f3 := F [47, 47, 32, 34, 32, 47, 42, 10] (by decide)
  simp only [List.length_cons, List.length_nil] at f0 f1 f2 f3
  generalize hS : s ++ w.s = S at *
  generalize hT : t ++ w.s = T at *
  have aS : ∀ x, s ++ (w.s ++ x) = S ++ x := by intro x; rw [← hS, List.append_assoc]
  have aT : ∀ x, t ++ (w.s ++ x) = T ++ x := by intro x; rw [← hT, List.append_assoc]
  rw [aS, aT]
  by_cases hb : b.length = 0
  · have e : markN b i = 0 := by simp [markN, hb]
    rw [e]
    have t0 : (0 : Int).tmod 4 = 0 := rfl
    simp -implicitDefEqProofs (maxSteps := 1000000) (disch := omega) only [↓Int.reduceLT, ↓Int.reduceLE, ↓Int.reduceEq, ↓Nat.reduceEqDiff, Nat.reduceBEq, ↓reduceIte, St.toRS, restrict, initEnv, plainArgs, reduceCtorEq, Nat.reduceEqDiff, Nat.reduceAdd, Nat.reduceMul, Int.reduceLT, Int.reduceLE, Int.reduceEq, Int.reduceNeg, Int.reduceAdd, Int.reduceToNat, Int.reduceNe, Nat.reduceSub, Int.reducePow, Int.reduceMul, vb0, vb1, vb2, vb3, vb4, vb5, vb6, vb7, l_law4_LexAgain_5, ag_st, hg, sub, List.getElem?_cons_zero, List.getElem?_cons_succ, bytesD_length, hS, hT, fill, setAt, List.set_cons_succ, List.set_cons_zero, t0, sepL]
  · have hpos : i % b.length < b.length := Nat.mod_lt _ (by omega)
    have hgb : b[i % b.length]? = some b[i % b.length] := by simp [hpos]
    have e : markN b i = b[i % b.length].toNat % 4 := by simp [markN, hb, hgb]
    have hmod : ((i : Int).tmod (b.length : Int)) = ((i % b.length : Nat) : Int) := Int.ofNat_tmod i b.length |>.symm
    rw [e]
    generalize hk : i % b.length = k at *
    generalize b[k] = c at *
    have h4 : (c.toNat : Int).tmod 4 = ((c.toNat % 4 : Nat) : Int) := (Int.ofNat_tmod c.toNat 4).symm
    have hlt : c.toNat % 4 < 4 := Nat.mod_lt _ (by omega)
    have cs : c.toNat % 4 = 0 ∨ c.toNat % 4 = 1 ∨ c.toNat % 4 = 2 ∨ c.toNat % 4 = 3 := by omega
    rcases cs with h | h | h | h
    · rw [h] at h4 ⊢
      simp -implicitDefEqProofs (maxSteps := 1000000) (disch := omega) only [↓Int.reduceLT, ↓Int.reduceLE, ↓Int.reduceEq, ↓Nat.reduceEqDiff, Nat.reduceBEq, ↓reduceIte, St.toRS, restrict, initEnv, plainArgs, reduceCtorEq, Nat.reduceEqDiff, Nat.reduceAdd, Nat.reduceMul, Int.reduceLT, Int.reduceLE, Int.reduceEq, Int.reduceNeg, Int.reduceAdd, Int.reduceToNat, Int.reduceNe, Nat.reduceSub, Int.reducePow, Int.reduceMul, vb0, vb1, vb2, vb3, vb4, vb5, vb6, vb7, l_law4_LexAgain_5, ag_st, hg, sub, List.getElem?_cons_zero, List.getElem?_cons_succ, bytesD_length, bytesD_get, hgb, byteD, hmod, hS, hT, fill, setAt, List.set_cons_succ, List.set_cons_zero, h4, sepL]
    · rw [h] at h4 ⊢
      simp -implicitDefEqProofs (maxSteps := 1000000) (disch := omega) only [↓Int.reduceLT, ↓Int.reduceLE, ↓Int.reduceEq, ↓Nat.reduceEqDiff, Nat.reduceBEq, ↓reduceIte, St.toRS, restrict, initEnv, plainArgs, reduceCtorEq, Nat.reduceEqDiff, Nat.reduceAdd, Nat.reduceMul, Int.reduceLT, Int.reduceLE, Int.reduceEq, Int.reduceNeg, Int.reduceAdd, Int.reduceToNat, Int.reduceNe, Nat.reduceSub, Int.reducePow, Int.reduceMul, vb0, vb1, vb2, vb3, vb4, vb5, vb6, vb7, l_law4_LexAgain_5, ag_st, hg, sub, List.getElem?_cons_zero, List.getElem?_cons_succ, bytesD_length, bytesD_get, hgb, byteD, hmod, hS, hT, fill, setAt, List.set_cons_succ, List.set_cons_zero, h4, sepL]
    · rw [h] at h4 ⊢
      simp -implicitDefEqProofs (maxSteps := 1000000) (disch := omega) only [↓Int.reduceLT, ↓Int.reduceLE, ↓Int.reduceEq, ↓Nat.reduceEqDiff, Nat.reduceBEq, ↓reduceIte, St.toRS, restrict, initEnv, plainArgs, reduceCtorEq, Nat.reduceEqDiff, Nat.reduceAdd, Nat.reduceMul, Int.reduceLT, Int.reduceLE, Int.reduceEq, Int.reduceNeg, Int.reduceAdd, Int.reduceToNat, Int.reduceNe, Nat.reduceSub, Int.reducePow, Int.reduceMul, vb0, vb1, vb2, vb3, vb4, vb5, vb6, vb7, l_law4_LexAgain_5, ag_st, hg, sub, List.getElem?_cons_zero, List.getElem?_cons_succ, bytesD_length, bytesD_get, hgb, byteD, hmod, hS, hT, fill, setAt, List.set_cons_succ, List.set_cons_zero, h4, sepL]
    · rw [h] at h4 ⊢
      simp -implicitDefEqProofs (maxSteps := 1000000) (disch := omega) only [↓Int.reduceLT, ↓Int.reduceLE, ↓Int.reduceEq, ↓Nat.reduceEqDiff, Nat.reduceBEq, ↓reduceIte, St.toRS, restrict, initEnv, plainArgs, reduceCtorEq, Nat.reduceEqDiff, Nat.reduceAdd, Nat.reduceMul, Int.reduceLT, Int.reduceLE, Int.reduceEq, Int.reduceNeg, Int.reduceAdd, Int.reduceToNat, Int.reduceNe, Nat.reduceSub, Int.reducePow, Int.reduceMul, vb0, vb1, vb2, vb3, vb4, vb5, vb6, vb7, l_law4_LexAgain_5, ag_st, hg, sub, List.getElem?_cons_zero, List.getElem?_cons_succ, bytesD_length, bytesD_get, hgb, byteD, hmod, hS, hT, fill, setAt, List.set_cons_succ, List.set_cons_zero, h4, sepL]
theorem ag_loop (b : List UInt8) (ws : List Wd) (hl : ws.length ≤ 65537) (hw : ∀ w ∈ ws, w.s.length ≤ 65536) :
    X (M m) (.loop l_law4_LexAgain_5) (ag_st b (ws.map wdD) [] [] 0) = some (.exit 0, { env := [(1, .d (.slice 1 (bytesD b))), (5, .d (.slice 6 (ws.map wdD))), (7, .d (.str (joinL (fun _ => 0) 0 ws))), (8, .d (.str (joinL (markN b) 0 ws))), (9, .d (.int .i64 ws.length)), (31, .d (.bool false))], bx := [] }) := by
  have hm : (ws.map wdD).length = ws.length := by simp
  have := Go.Vi.loop_to (M := M m) (b := l_law4_LexAgain_5) (inv := fun i => ag_st b (ws.map wdD) (joinL (fun _ => 0) 0 (ws.take i)) (joinL (markN b) 0 (ws.take i)) i) (n := ws.length)
    (r := some (.exit 0, { env := [(1, .d (.slice 1 (bytesD b))), (5, .d (.slice 6 (ws.map wdD))), (7, .d (.str (joinL (fun _ => 0) 0 ws))), (8, .d (.str (joinL (markN b) 0 ws))), (9, .d (.int .i64 ws.length)), (31, .d (.bool false))], bx := [] })) (fun i hi => ?_) ?_ 0 (by omega)
  · simpa [joinL] using this
  · have hwi : ws[i]? = some ws[i] := by simp [hi]
    have hg : (ws.map wdD)[i]? = some (wdD ws[i]) := by rw [List.getElem?_map, hwi]; rfl
    have hj : ∀ g, joinL g 0 (ws.take (i + 1)) = joinL g 0 (ws.take i) ++ (ws[i].s ++ sepL (g i)) := by
      intro g
      rw [List.take_add_one, hwi, Option.toList_some, joinL_append]
      simp only [joinL, List.length_take, Nat.zero_add, Nat.min_eq_left (Nat.le_of_lt hi), List.append_nil]
    have hlen : ∀ g, (joinL g 0 (ws.take i)).length ≤ 4300000000 := by
      intro g
      have := joinL_len g (ws.take i) 0 fun w h => hw w (List.mem_of_mem_take h)
      simp only [List.length_take] at this
      omega
    simp only [hj]
    exact ag_round b _ _ _ i ws[i] (by omega) (by omega) (hlen _) (hlen _) (hw _ (by simp)) hg
  · refine loop_exit ?_ (by simp)
    simp -implicitDefEqProofs (maxSteps := 1000000) (disch := omega) only [↓Int.reduceLT, ↓Int.reduceLE, ↓Int.reduceEq, ↓Nat.reduceEqDiff, Nat.reduceBEq, ↓reduceIte, St.toRS, restrict, initEnv, plainArgs, reduceCtorEq, Nat.reduceEqDiff, Nat.reduceAdd, Nat.reduceMul, Int.reduceLT, Int.reduceLE, Int.reduceEq, Int.reduceNeg, Int.reduceAdd, Int.reduceToNat, Int.reduceNe, Nat.reduceSub, Int.reducePow, Int.reduceMul, vb0, vb1, vb2, vb3, vb4, vb5, vb6, vb7, l_law4_LexAgain_5, ag_st, hm, List.take_length]

theorem again_data (t b : List UInt8) (hb : t.length ≤ 9223372036854775807) : C (M m) n_law4_LexAgain [.d (.str t), .d (.slice 1 (bytesD b))] = some (.d (.bool true)) := by
  rw [c_fn (sf := f_law4_LexAgain) rfl rfl ⟨rfl, rfl⟩]
  have s1 := split_spec (m := m) t hb
  have s3 := awake_data (m := m)
  cases hs : splitL t with
  | inl e =>
    have he : e.1 ≠ 0 := fault_code t e hs
    obtain ⟨e, l, c⟩ := e
    simp only [hs, wordsD, faultD] at s1 he
    simp -implicitDefEqProofs (maxSteps := 1000000) (disch := omega) only [↓Int.reduceLT, ↓Int.reduceLE, ↓Int.reduceEq, ↓Nat.reduceEqDiff, Nat.reduceBEq, ↓reduceIte, St.toRS, restrict, initEnv, plainArgs, reduceCtorEq, Nat.reduceEqDiff, Nat.reduceAdd, Nat.reduceMul, Int.reduceLT, Int.reduceLE, Int.reduceEq, Int.reduceNeg, Int.reduceAdd, Int.reduceToNat, Int.reduceNe, Nat.reduceSub, Int.reducePow, Int.reduceMul, vb0, vb1, vb2, vb3, vb4, vb5, vb6, vb7, f_law4_LexAgain, s1, s3, List.getElem?_cons_zero, List.getElem?_cons_succ, setAt, List.set_cons_succ, List.set_cons_zero, sub]
  | inr ws =>
    have hwl := words_small t ws hs
    simp only [hs, wordsD, faultD] at s1
    unfold splitL at hs
    split at hs
    · cases hs
    rename_i hbig
    have hwlen : ∀ w ∈ ws, w.s.length ≤ 65536 := fun w hw => by have := word_len _ _ _ _ hs w hw; omega
    have hl := ag_loop (m := m) b ws hwl hwlen
    have jl : ∀ g, (joinL g 0 ws).length ≤ 4300000000 := by
      intro g
      have := joinL_len g ws 0 hwlen
      omega
    have q1 := split_spec (m := m) (joinL (fun _ => 0) 0 ws) (by have := jl (fun _ => 0); omega)
    have q2 := split_spec (m := m) (joinL (markN b) 0 ws) (by have := jl (markN b); omega)
    have ok : ∀ g, (joinL g 0 ws).length ≤ 65536 → ∃ xs, splitL (joinL g 0 ws) = .inr xs ∧ C (M m) 12 [.d (.slice 6 (xs.map wdD)), .d (.slice 6 (ws.map wdD))] = some (.d (.bool true)) := by
      intro g hg
      obtain ⟨xs, h1, h2, h3⟩ := again g _ _ _ ws hs 0 ((joinL g 0 ws).length + 1) (1, 1) (by omega)
      refine ⟨xs, ?_, like_spec xs ws hwl h2 h3⟩
      unfold splitL
      rw [if_neg (by omega)]
      exact h1
    have bad : ∀ g, ¬ (joinL g 0 ws).length ≤ 65536 → splitL (joinL g 0 ws) = .inl (1, 0, 0) := by
      intro g hg
      unfold splitL
      rw [if_pos (by omega)]
    have o1 := ok (fun _ => 0)
    have o2 := ok (markN b)
    have b1 := bad (fun _ => 0)
    have b2 := bad (markN b)
    clear ok bad jl hbig hs
    simp only [ag_st, Int.cast_ofNat_Int] at hl
    generalize joinL (fun _ => 0) 0 ws = S at *
    generalize joinL (markN b) 0 ws = T at *
    by_cases hS : S.length ≤ 65536
    · obtain ⟨xs, hx, lx⟩ := o1 hS
      simp only [hx, wordsD, faultD] at q1
      by_cases hT : T.length ≤ 65536
      · obtain ⟨ys, hy, ly⟩ := o2 hT
        simp only [hy, wordsD, faultD] at q2
        clear o1 o2 b1 b2
        simp -implicitDefEqProofs (maxSteps := 1000000) (disch := omega) only [↓Int.reduceLT, ↓Int.reduceLE, ↓Int.reduceEq, ↓Nat.reduceEqDiff, Nat.reduceBEq, ↓reduceIte, St.toRS, restrict, initEnv, plainArgs, reduceCtorEq, Nat.reduceEqDiff, Nat.reduceAdd, Nat.reduceMul, Int.reduceLT, Int.reduceLE, Int.reduceEq, Int.reduceNeg, Int.reduceAdd, Int.reduceToNat, Int.reduceNe, Nat.reduceSub, Int.reducePow, Int.reduceMul, vb0, vb1, vb2, vb3, vb4, vb5, vb6, vb7, f_law4_LexAgain, s1, s3, List.getElem?_cons_zero, List.getElem?_cons_succ, setAt, List.set_cons_succ, List.set_cons_zero, sub, hl, q1, q2, lx, ly]
      · rw [b2 hT] at q2
        simp only [wordsD, faultD] at q2
        clear o1 o2 b1 b2
        simp -implicitDefEqProofs (maxSteps := 1000000) (disch := omega) only [↓Int.reduceLT, ↓Int.reduceLE, ↓Int.reduceEq, ↓Nat.reduceEqDiff, Nat.reduceBEq, ↓reduceIte, St.toRS, restrict, initEnv, plainArgs, reduceCtorEq, Nat.reduceEqDiff, Nat.reduceAdd, Nat.reduceMul, Int.reduceLT, Int.reduceLE, Int.reduceEq, Int.reduceNeg, Int.reduceAdd, Int.reduceToNat, Int.reduceNe, Nat.reduceSub, Int.reducePow, Int.reduceMul, vb0, vb1, vb2, vb3, vb4, vb5, vb6, vb7, f_law4_LexAgain, s1, s3, List.getElem?_cons_zero, List.getElem?_cons_succ, setAt, List.set_cons_succ, List.set_cons_zero, sub, hl, q1, q2]
    · rw [b1 hS] at q1
      simp only [wordsD, faultD] at q1
      by_cases hT : T.length ≤ 65536
      · obtain ⟨ys, hy, ly⟩ := o2 hT
        simp only [hy, wordsD, faultD] at q2
        clear o1 o2 b1 b2
        simp -implicitDefEqProofs (maxSteps := 1000000) (disch := omega) only [↓Int.reduceLT, ↓Int.reduceLE, ↓Int.reduceEq, ↓Nat.reduceEqDiff, Nat.reduceBEq, ↓reduceIte, St.toRS, restrict, initEnv, plainArgs, reduceCtorEq, Nat.reduceEqDiff, Nat.reduceAdd, Nat.reduceMul, Int.reduceLT, Int.reduceLE, Int.reduceEq, Int.reduceNeg, Int.reduceAdd, Int.reduceToNat, Int.reduceNe, Nat.reduceSub, Int.reducePow, Int.reduceMul, vb0, vb1, vb2, vb3, vb4, vb5, vb6, vb7, f_law4_LexAgain, s1, s3, List.getElem?_cons_zero, List.getElem?_cons_succ, setAt, List.set_cons_succ, List.set_cons_zero, sub, hl, q1, q2]
      · rw [b2 hT] at q2
        simp only [wordsD, faultD] at q2
        clear o1 o2 b1 b2
        simp -implicitDefEqProofs (maxSteps := 1000000) (disch := omega) only [↓Int.reduceLT, ↓Int.reduceLE, ↓Int.reduceEq, ↓Nat.reduceEqDiff, Nat.reduceBEq, ↓reduceIte, St.toRS, restrict, initEnv, plainArgs, reduceCtorEq, Nat.reduceEqDiff, Nat.reduceAdd, Nat.reduceMul, Int.reduceLT, Int.reduceLE, Int.reduceEq, Int.reduceNeg, Int.reduceAdd, Int.reduceToNat, Int.reduceNe, Nat.reduceSub, Int.reducePow, Int.reduceMul, vb0, vb1, vb2, vb3, vb4, vb5, vb6, vb7, f_law4_LexAgain, s1, s3, List.getElem?_cons_zero, List.getElem?_cons_succ, setAt, List.set_cons_succ, List.set_cons_zero, sub, hl, q1, q2]
end Go.Proofs.Ytladdhfkmnhmfaa
