/-
  What the reference's Split answers: the same words, or the same fault.
-/
import Derived.Test.YtladdhfkmnhmfaaRsplit
set_option linter.unusedVariables false
set_option linter.unusedSimpArgs false
set_option maxRecDepth 100000
set_option maxHeartbeats 8000000
namespace Go.Proofs.Ytladdhfkmnhmfaa
open Go.Vi
variable {m : Int}

theorem wordsF_same : ∀ (f g : Nat) (r : List UInt8) (p : Nat × Nat), r.length < f → r.length < g → wordsF f r p = wordsF g r p := by
  intro f
  induction f with
  | zero => intro g r p h; omega
  | succ f ih =>
    intro g r p h hg
    cases g with
    | zero => omega
    | succ g =>
      simp only [wordsF]
      cases hk : tok r with
      | done => rfl
      | fault e => rfl
      | blank k =>
        have := tok_blank hk
        simp only []
        exact ih g _ _ (by simp; omega) (by simp; omega)
      | word kind len n bs b =>
        have := tok_word hk
        simp only []
        rw [ih g (r.drop len) _ (by simp; omega) (by simp; omega)]
theorem space_le : ∀ (f : Nat) (r : List UInt8), (spaceF f r).1 ≤ r.length := by
  intro f
  induction f with
  | zero => intro r; simp [spaceF]
  | succ f ih =>
    intro r
    simp only [spaceF]
    cases hk : tok r with
    | blank k =>
      have := tok_blank hk
      have := ih (r.drop k)
      simp only [List.length_drop] at this ⊢
      omega
    | done => simp
    | fault e => simp
    | word a b c d e => simp
theorem space_words : ∀ (f : Nat) (r : List UInt8) (p : Nat × Nat), r.length < f → wordsF f r p = wordsF f (r.drop (spaceF f r).1) (adv (r.take (spaceF f r).1) p) ∧
    (∀ k, tok (r.drop (spaceF f r).1) ≠ .blank k) ∧ (spaceF f r).2 = decide (¬ (r.drop (spaceF f r).1).take 2 = [47, 42]) := by
  intro f
  induction f with
  | zero => intro r p h; omega
  | succ f ih =>
    intro r p h
    cases hk : tok r with
    | blank k =>
      have hb := tok_blank hk
      obtain ⟨h1, h2, h3⟩ := ih (r.drop k) (adv (r.take k) p) (by simp; omega)
      have e : spaceF (f + 1) r = (k + (spaceF f (r.drop k)).1, (spaceF f (r.drop k)).2) := by simp only [spaceF, hk]
      have hw : wordsF (f + 1) r p = wordsF f (r.drop k) (adv (r.take k) p) := by simp only [wordsF, hk]
      simp only [List.drop_drop] at h1 h2 h3
      rw [e]
      simp only []
      refine ⟨?_, h2, h3⟩
      rw [hw, h1, List.take_add, adv_append]
      exact wordsF_same _ _ _ _ (by simp; omega) (by simp; omega)
    | done =>
      have e : spaceF (f + 1) r = (0, decide (¬ r.take 2 = [47, 42])) := by simp only [spaceF, hk]
      rw [e]
      exact ⟨rfl, fun k => by rw [List.drop_zero, hk]; simp, rfl⟩
    | fault x =>
      have e : spaceF (f + 1) r = (0, decide (¬ r.take 2 = [47, 42])) := by simp only [spaceF, hk]
      rw [e]
      exact ⟨rfl, fun k => by rw [List.drop_zero, hk]; simp, rfl⟩
    | word a b c d x =>
      have e : spaceF (f + 1) r = (0, decide (¬ r.take 2 = [47, 42])) := by simp only [spaceF, hk]
      rw [e]
      exact ⟨rfl, fun k => by rw [List.drop_zero, hk]; simp, rfl⟩
theorem adv_col : ∀ (a : List UInt8) (p : Nat × Nat), 1 ≤ p.2 → 1 ≤ (adv a p).2 ∧ (adv a p).2 ≤ p.2 + a.length
  | [], p, h => by simp [adv]; exact h
  | c :: a, p, h => by
    simp only [adv, List.foldl_cons]
    split
    · have := adv_col a (p.1 + 1, 1) (by simp)
      simp only [adv, List.length_cons] at this ⊢
      omega
    · have := adv_col a (p.1, p.2 + 1) (by simp)
      simp only [adv, List.length_cons] at this ⊢
      omega

theorem rs_all (t : List UInt8) (ht : t.length ≤ 65536) : ∀ (f i : Nat) (out : List D) (ex : List (Nat × V)), i ≤ t.length → out.length ≤ i → t.length - i < f →
    X (M m) (.loop l_ref4_Split_0) (rs_st t i (adv (t.take i) (1, 1)) out ex) = onto out (wordsF (t.length - i + 1) (t.drop i) (adv (t.take i) (1, 1))) := by
  intro f
  induction f with
  | zero => intro i out ex _ _ h; omega
  | succ f ih =>
    intro i out ex hi ho hf
    have hsp0 := space_spec (m := m) t i ht hi
    have hle := space_le (t.length - i + 1) (t.drop i)
    obtain ⟨hW, hnb, hok⟩ := space_words (t.length - i + 1) (t.drop i) (adv (t.take i) (1, 1)) (by simp)
    generalize spaceF (t.length - i + 1) (t.drop i) = s at *
    obtain ⟨k, ok⟩ := s
    simp only [List.length_drop, List.drop_drop] at hsp0 hle hW hnb hok
    have plc : ∀ n, n ≤ t.length → (adv (t.take n) (1, 1)).1 ≤ 65537 ∧ (adv (t.take n) (1, 1)).2 ≤ 65537 := by
      intro n hn
      have h1 := adv_le (t.take n) (1, 1)
      have h2 := adv_col (t.take n) (1, 1) (by simp)
      simp only [List.length_take] at h1 h2
      omega
    have hp := plc i hi
    have hto := to_spec (m := m) t i k (adv (t.take i) (1, 1)) ht (by omega) hp.1 hp.2
    have hadv : ∀ a b, adv ((t.drop a).take b) (adv (t.take a) (1, 1)) = adv (t.take (a + b)) (1, 1) := by
      intro a b; rw [List.take_add, adv_append]
    rw [hadv] at hto hW
    have hq := plc (i + k) (by omega)
    generalize hj : i + k = j at *
    have hjl : j ≤ t.length := by omega
    rw [hW]
    have hsame : wordsF (t.length - i + 1) (t.drop j) (adv (t.take j) (1, 1)) = wordsF (t.length - j + 1) (t.drop j) (adv (t.take j) (1, 1)) := wordsF_same _ _ _ _ (by simp; omega) (by simp)
    rw [hsame]
    have hq2 : (adv (t.take j) (1, 1)).1 ≤ 131072 ∧ (adv (t.take j) (1, 1)).2 ≤ 131072 := by omega
    have stop : ∀ (ws : List D) (e l c : Int), X (M m) l_ref4_Split_0 (rs_st t i (adv (t.take i) (1, 1)) out ex) = sp_ret ws e l c → X (M m) (.loop l_ref4_Split_0) (rs_st t i (adv (t.take i) (1, 1)) out ex) = sp_ret ws e l c := by
      intro ws e l c h
      exact loop_exit h (by simp)
    have go : ∀ (kind : Int) (len : Nat) (n : Int) (bs : Nat) (b : List UInt8), tok (t.drop j) = .word kind len n bs b →
        (∀ q', C (M m) 22 [.d (.str t), .d (.agg [.int .i64 j, .int .i64 (adv (t.take j) (1, 1)).1, .int .i64 (adv (t.take j) (1, 1)).2]), .d (.int .i64 (j + len : Nat))] = some (.d (.agg [.int .i64 (j + len : Nat), .int .i64 (q' : Nat × Nat).1, .int .i64 q'.2])) →
          X (M m) l_ref4_Split_0 (rs_st t i (adv (t.take i) (1, 1)) out ex) = some (.norm, rs_st t (j + len) q' (out ++ [wdD ⟨kind, (t.drop j).take len, n, bs, b, (adv (t.take j) (1, 1)).1, (adv (t.take j) (1, 1)).2⟩]) [])) →
        X (M m) (.loop l_ref4_Split_0) (rs_st t i (adv (t.take i) (1, 1)) out ex) = onto out (wordsF (t.length - j + 1) (t.drop j) (adv (t.take j) (1, 1))) := by
      intro kind len n bs b hk hx
      obtain ⟨w1, w2, w3⟩ := tok_word hk
      simp only [List.length_drop] at w2
      have hto2 := to_spec (m := m) t j len (adv (t.take j) (1, 1)) ht (by omega) hq.1 hq.2
      rw [hadv] at hto2
      rw [X_loop, hx _ hto2]
      have := ih (j + len) (out ++ [wdD ⟨kind, (t.drop j).take len, n, bs, b, (adv (t.take j) (1, 1)).1, (adv (t.take j) (1, 1)).2⟩]) [] (by omega) (by simp; omega) (by omega)
      have e : wordsF (t.length - j + 1) (t.drop j) (adv (t.take j) (1, 1)) = match wordsF (t.length - j) (t.drop (j + len)) (adv (t.take (j + len)) (1, 1)) with
          | .inl e => .inl e
          | .inr ws => .inr (⟨kind, (t.drop j).take len, n, bs, b, (adv (t.take j) (1, 1)).1, (adv (t.take j) (1, 1)).2⟩ :: ws) := by
        simp only [wordsF, hk, List.drop_drop, hadv]
        cases wordsF (t.length - j) (t.drop (j + len)) (adv (t.take (j + len)) (1, 1)) <;> rfl
      rw [e]
      rw [wordsF_same (t.length - j) (t.length - (j + len) + 1) _ _ (by simp; omega) (by simp)]
      show X (M m) (.loop l_ref4_Split_0) _ = _
      rw [this]
      cases wordsF (t.length - (j + len) + 1) (t.drop (j + len)) (adv (t.take (j + len)) (1, 1)) with
      | inl e => rfl
      | inr ws => simp [onto]
    have bad : ∀ e : Int, tok (t.drop j) = .fault e → X (M m) l_ref4_Split_0 (rs_st t i (adv (t.take i) (1, 1)) out ex) = sp_ret [] e (adv (t.take j) (1, 1)).1 (adv (t.take j) (1, 1)).2 →
        X (M m) (.loop l_ref4_Split_0) (rs_st t i (adv (t.take i) (1, 1)) out ex) = onto out (wordsF (t.length - j + 1) (t.drop j) (adv (t.take j) (1, 1))) := by
      intro e hk hx
      rw [stop _ _ _ _ hx]
      simp only [wordsF, hk, onto]
    cases ok with
    | false =>
      have n3 : (t.drop j).take 2 = [47, 42] := by simpa using hok.symm
      have hlt : j < t.length := by
        have := congrArg List.length n3
        simp at this; omega
      have hd : t.drop j = t[j] :: t.drop (j + 1) := List.drop_eq_getElem_cons hlt
      have hx := rs_open (m := m) t i j (adv (t.take i) (1, 1)) (adv (t.take j) (1, 1)) out ex ht hjl (by omega) hq2 hsp0 hto
      refine bad 11 ?_ hx
      rw [hd] at n3 hnb ⊢
      rw [tok] at hnb ⊢
      have c47 : t[j] = 47 := by
        simp only [List.take_succ_cons, List.cons.injEq] at n3
        exact n3.1
      rw [if_neg (by rw [c47]; decide), if_neg (by rw [n3]; decide), if_pos n3] at hnb ⊢
      cases hc : ce ((t[j] :: t.drop (j + 1)).drop 2) with
      | none => rfl
      | some x => rw [hc] at hnb; exact absurd rfl (hnb (x + 4))
    | true =>
      have n3 : ¬ (t.drop j).take 2 = [47, 42] := by simpa using hok.symm
      rcases Nat.lt_or_ge j t.length with hlt | hge
      case inr =>
        have e : j = t.length := by omega
        have hx := rs_done (m := m) t i j (adv (t.take i) (1, 1)) (adv (t.take j) (1, 1)) out ex ht hjl (by omega) hq2 hsp0 hto e
        rw [stop _ _ _ _ hx, e, List.drop_length]
        rfl
      have hg : t[j]? = some t[j] := by simp [hlt]
      have hd : t.drop j = t[j] :: t.drop (j + 1) := List.drop_eq_getElem_cons hlt
      generalize hcv : t[j] = c at *
      have n1 : ¬ (c.toNat = 10 ∨ c.toNat = 32 ∨ c.toNat = 9 ∨ c.toNat = 13) := by
        intro h
        apply hnb 1
        rw [hd, tok, if_pos h]
      have n2 : ¬ (t.drop j).take 2 = [47, 47] := by
        intro h
        apply hnb (lnE (t.drop j))
        rw [hd] at h ⊢
        rw [tok, if_neg n1, if_pos h]
      cases hL : isLetter c.toNat with
      | true =>
        refine go 1 (wl (t.drop j)) 0 0 [] ?_ (fun q' h2 => rs_name (m := m) t i j _ _ out ex ht hjl (by omega) hq2 hsp0 hto c hlt hg hL q' h2)
        rw [hd] at n2 n3 ⊢; rw [tok, if_neg n1, if_neg n2, if_neg n3, if_pos hL]
      | false =>
        have fL : ¬ isLetter c.toNat = true := by rw [hL]; decide
        cases hD : isDigit c.toNat with
        | true =>
          by_cases he : (numberL (t.drop j)).2.2 = 0
          · refine go 2 (numberL (t.drop j)).1 (numberL (t.drop j)).2.1 0 [] ?_ (fun q' h2 => rs_number (m := m) t i j _ _ out ex ht hjl (by omega) hq2 hsp0 hto c hlt hg hL hD he q' h2)
            rw [hd] at n2 n3 he ⊢; rw [tok, if_neg n1, if_neg n2, if_neg n3, if_neg fL, if_pos hD, if_pos he]
          · refine bad _ ?_ (rs_number_bad (m := m) t i j _ _ out ex ht hjl (by omega) hq2 hsp0 hto c hlt hg hL hD he)
            rw [hd] at n2 n3 he ⊢; rw [tok, if_neg n1, if_neg n2, if_neg n3, if_neg fL, if_pos hD, if_neg he]
        | false =>
          have fD : ¬ isDigit c.toNat = true := by rw [hD]; decide
          by_cases h34 : c.toNat = 34
          · by_cases he : (quotedL (t.drop j)).1 = 0
            · refine bad 11 ?_ (rs_text_bad (m := m) t i j _ _ out ex ht hjl (by omega) hq2 hsp0 hto c hlt hg hL hD h34 he)
              rw [hd] at n2 n3 he ⊢; rw [tok, if_neg n1, if_neg n2, if_neg n3, if_neg fL, if_neg fD, if_pos h34, if_pos he]
            · refine go 3 (quotedL (t.drop j)).1 0 1 (quotedL (t.drop j)).2 ?_ (fun q' h2 => rs_text (m := m) t i j _ _ out ex ht hjl (by omega) hq2 hsp0 hto c hlt hg hL hD h34 he q' h2)
              rw [hd] at n2 n3 he ⊢; rw [tok, if_neg n1, if_neg n2, if_neg n3, if_neg fL, if_neg fD, if_pos h34, if_neg he]
          · cases hS : isSign c.toNat with
            | true =>
              refine go 4 1 0 0 [] ?_ (fun q' h2 => rs_sign (m := m) t i j _ _ out ex ht hjl (by omega) hq2 hsp0 hto c hlt hg hL hD h34 hS q' h2)
              rw [hd] at n2 n3 ⊢; rw [tok, if_neg n1, if_neg n2, if_neg n3, if_neg fL, if_neg fD, if_neg h34, if_pos hS]
            | false =>
              refine bad 11 ?_ (rs_bad (m := m) t i j _ _ out ex ht hjl (by omega) hq2 hsp0 hto c hlt hg hL hD h34 hS)
              rw [hd] at n2 n3 ⊢; rw [tok, if_neg n1, if_neg n2, if_neg n3, if_neg fL, if_neg fD, if_neg h34, if_neg (show ¬ isSign c.toNat = true by rw [hS]; decide)]

theorem rsplit_spec (t : List UInt8) (hb : t.length ≤ 9223372036854775807) : C (M m) 11 [.d (.str t)] = some (.tup [.slice 6 (wordsD (splitL t)), faultD (splitL t)]) := by
  rw [c_fn (sf := f_ref4_Split) rfl rfl ⟨rfl, rfl⟩]
  by_cases hbig : 65536 < t.length
  · simp -implicitDefEqProofs (maxSteps := 1000000) (disch := omega) only [↓Int.reduceLT, ↓Int.reduceLE, ↓Int.reduceEq, ↓Nat.reduceEqDiff, Nat.reduceBEq, ↓reduceIte, St.toRS, restrict, initEnv, plainArgs, reduceCtorEq, Nat.reduceEqDiff, Nat.reduceAdd, Nat.reduceMul, Int.reduceLT, Int.reduceLE, Int.reduceEq, Int.reduceNeg, Int.reduceAdd, Int.reduceToNat, Int.reduceNe, Nat.reduceSub, Int.reducePow, Int.reduceMul, vb0, vb1, vb2, vb3, vb4, vb5, vb6, vb7, f_ref4_Split, splitL, hbig, wordsD, faultD, fill, setAt, List.set_cons_succ, List.set_cons_zero, sub, List.drop_zero, List.take_succ_cons, List.take_zero]
  · have hl := rs_all (m := m) t (by omega) (t.length + 1) 0 [] [] (by omega) (by simp) (by omega)
    simp only [List.drop_zero, Nat.sub_zero, List.take_zero, adv, List.foldl_nil, rs_st, Int.cast_ofNat_Int] at hl
    cases hw : wordsF (t.length + 1) t (1, 1) with
    | inl e =>
      obtain ⟨e, l, c⟩ := e
      simp only [hw, onto, sp_ret] at hl
      simp -implicitDefEqProofs (maxSteps := 1000000) (disch := omega) only [↓Int.reduceLT, ↓Int.reduceLE, ↓Int.reduceEq, ↓Nat.reduceEqDiff, Nat.reduceBEq, ↓reduceIte, St.toRS, restrict, initEnv, plainArgs, reduceCtorEq, Nat.reduceEqDiff, Nat.reduceAdd, Nat.reduceMul, Int.reduceLT, Int.reduceLE, Int.reduceEq, Int.reduceNeg, Int.reduceAdd, Int.reduceToNat, Int.reduceNe, Nat.reduceSub, Int.reducePow, Int.reduceMul, vb0, vb1, vb2, vb3, vb4, vb5, vb6, vb7, f_ref4_Split, hl, splitL, hbig, hw, wordsD, faultD, fill, setAt, List.set_cons_succ, List.set_cons_zero, sub, List.drop_zero, List.take_succ_cons, List.take_zero]
    | inr ws =>
      simp only [hw, onto, sp_ret, List.nil_append] at hl
      simp -implicitDefEqProofs (maxSteps := 1000000) (disch := omega) only [↓Int.reduceLT, ↓Int.reduceLE, ↓Int.reduceEq, ↓Nat.reduceEqDiff, Nat.reduceBEq, ↓reduceIte, St.toRS, restrict, initEnv, plainArgs, reduceCtorEq, Nat.reduceEqDiff, Nat.reduceAdd, Nat.reduceMul, Int.reduceLT, Int.reduceLE, Int.reduceEq, Int.reduceNeg, Int.reduceAdd, Int.reduceToNat, Int.reduceNe, Nat.reduceSub, Int.reducePow, Int.reduceMul, vb0, vb1, vb2, vb3, vb4, vb5, vb6, vb7, f_ref4_Split, hl, splitL, hbig, hw, wordsD, faultD, fill, setAt, List.set_cons_succ, List.set_cons_zero, sub, List.drop_zero, List.take_succ_cons, List.take_zero]
end Go.Proofs.Ytladdhfkmnhmfaa
