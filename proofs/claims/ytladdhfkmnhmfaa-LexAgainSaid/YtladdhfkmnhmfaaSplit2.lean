/-
  What lex.Split answers: the words, or the first fault.
-/
import Derived.Test.YtladdhfkmnhmfaaSplit
set_option linter.unusedVariables false
set_option linter.unusedSimpArgs false
set_option maxRecDepth 100000
set_option maxHeartbeats 8000000
namespace Go.Proofs.Ytladdhfkmnhmfaa
open Go.Vi
variable {m : Int}

/-! ### Words have no line's end -/
theorem wl_plain : ∀ (r : List UInt8), ∀ c ∈ r.take (wl r), c.toNat ≠ 10
  | [] => by simp [wl]
  | x :: r => by
    intro c hc
    simp only [wl] at hc
    split at hc
    · rename_i hx
      rw [List.take_succ_cons, List.mem_cons] at hc
      rcases hc with rfl | hc
      · intro h
        simp only [isLetter, isDigit, h, Bool.or_eq_true, decide_eq_true_eq] at hx
        omega
      · exact wl_plain r c hc
    · simp at hc
theorem numL_plain (hex : Bool) : ∀ (r : List UInt8) (n : Int) (o : Bool), ∀ c ∈ r.take (numL hex r n o).1, c.toNat ≠ 10
  | [], _, _ => by simp
  | x :: r, n, o => by
    intro c hc
    simp only [numL] at hc
    split at hc
    · rename_i hx
      simp only [List.take_succ_cons, List.mem_cons] at hc
      rcases hc with rfl | hc
      · intro h
        have := dgt_hex hx
        rw [h] at this
        exact absurd this (by decide)
      · exact numL_plain hex r _ _ c hc
    · simp at hc
theorem number_plain (r : List UInt8) : ∀ c ∈ r.take (numberL r).1, c.toNat ≠ 10 := by
  obtain ⟨hex, fr, p, hfr, hx, hl, hp, he⟩ := numberL_eq r
  rw [he]
  intro c hc
  split at hc
  · simp at hc
  · simp only [List.take_add, List.mem_append] at hc
    rcases hc with hc | hc
    · cases hex with
      | true =>
        rw [if_pos rfl] at hfr
        rw [hfr, of_decide_eq_true hx.symm] at hc
        simp only [List.mem_cons, List.mem_nil_iff, or_false] at hc
        rcases hc with rfl | rfl <;> decide
      | false =>
        rw [if_neg (by decide)] at hfr
        rw [hfr] at hc
        simp at hc
    · rw [hp] at hc
      exact numL_plain hex (r.drop fr) 0 false c hc

theorem unqF_plain : ∀ (n : Nat) (s b : List UInt8), unqF n s = some b → ∀ c ∈ s, c.toNat ≠ 10 := by
  intro n
  induction n with
  | zero =>
    intro s b h
    cases s with
    | nil => simp
    | cons c r => simp [unqF] at h
  | succ n ih =>
    intro s b h
    cases s with
    | nil => simp
    | cons c r =>
      simp only [unqF] at h
      cases hs : uqStep (c :: r) with
      | none => rw [hs] at h; cases h
      | some p =>
        obtain ⟨x, k⟩ := p
        rw [hs] at h
        simp only [Option.map_eq_some_iff] at h
        obtain ⟨y, hy, _⟩ := h
        have hrest := ih _ _ hy
        intro d hd
        have htk : d ∈ (c :: r).take k ∨ d ∈ (c :: r).drop k := by
          rw [← List.mem_append, List.take_append_drop]; exact hd
        rcases htk with ht | ht
        · exact uqStep_plain hs d ht
        · exact hrest d ht
theorem unquote_plain (s : List UInt8) (h : (unquoteL s).2 = 0) : ∀ c ∈ s, c.toNat ≠ 10 := by
  unfold unquoteL at h
  split at h
  · cases h
  split at h
  · cases h
  rename_i h2
  split at h
  · cases h
  rename_i b hb
  simp only [not_or, Decidable.not_not] at h2
  obtain ⟨hl, h0, hz⟩ := h2
  intro c hc
  obtain ⟨i, hi, rfl⟩ := List.getElem_of_mem hc
  rcases Nat.eq_zero_or_pos i with rfl | hp
  · have : s[0] = 34 := by simpa [show 0 < s.length by omega] using h0
    rw [this]; decide
  rcases Nat.lt_or_ge i (s.length - 1) with hlt | hge
  · have hm : s[i] ∈ (s.take (s.length - 1)).drop 1 := by
      rw [List.mem_iff_getElem]
      refine ⟨i - 1, by simp; omega, ?_⟩
      simp only [List.getElem_drop, List.getElem_take, show 1 + (i - 1) = i by omega]
    exact unqF_plain _ _ _ hb _ hm
  · have e : i = s.length - 1 := by omega
    have : s[i] = 34 := by
      have := hz
      rw [← e] at this
      simpa [hi] using this
    rw [this]; decide
theorem quoted_plain (r : List UInt8) : ∀ c ∈ r.take (quotedL r).1, c.toNat ≠ 10 := by
  unfold quotedL
  split
  · simp
  · rename_i k hk
    split
    · rename_i h
      exact unquote_plain _ h
    · simp

theorem tok_word {r : List UInt8} {kind : Int} {len : Nat} {n : Int} {bs : Nat} {b : List UInt8} (h : tok r = .word kind len n bs b) : 1 ≤ len ∧ len ≤ r.length ∧ ∀ c ∈ r.take len, c.toNat ≠ 10 := by
  cases r with
  | nil => simp [tok] at h
  | cons c r =>
    simp only [tok] at h
    split at h
    · cases h
    split at h
    · cases h
    split at h
    · split at h <;> cases h
    split at h
    · rename_i hl
      simp only [Tok.word.injEq] at h
      obtain ⟨rfl, rfl, rfl, rfl, rfl⟩ := h
      refine ⟨by simp [wl, hl], wl_le _, wl_plain _⟩
    split at h
    · split at h
      · rename_i he
        simp only [Tok.word.injEq] at h
        obtain ⟨rfl, rfl, rfl, rfl, rfl⟩ := h
        refine ⟨numberL_pos _ he, numberL_le _, number_plain _⟩
      · cases h
    split at h
    · split at h
      · cases h
      · rename_i hz
        simp only [Tok.word.injEq] at h
        obtain ⟨rfl, rfl, rfl, rfl, rfl⟩ := h
        exact ⟨by omega, (quotedL_le _).1, quoted_plain _⟩
    split at h
    · rename_i hn _ _ _ _ _ _
      simp only [Tok.word.injEq] at h
      obtain ⟨rfl, rfl, rfl, rfl, rfl⟩ := h
      refine ⟨by omega, by simp, ?_⟩
      intro d hd
      simp only [List.take_succ_cons, List.take_zero, List.mem_cons, List.mem_nil_iff, or_false] at hd
      subst hd
      omega
    · cases h
theorem tok_blank {r : List UInt8} {k : Nat} (h : tok r = .blank k) : 1 ≤ k ∧ k ≤ r.length := by
  cases r with
  | nil => simp [tok] at h
  | cons c r =>
    simp only [tok] at h
    split at h
    · cases h; simp
    rename_i h10
    split at h
    · cases h
      have := lnE_le (c :: r)
      refine ⟨?_, this⟩
      simp only [lnE]
      rw [if_neg (by omega)]; omega
    split at h
    · rename_i h2
      split at h
      · cases h
      · rename_i k' hk
        cases h
        have := ce_lt _ _ hk
        have h3 := congrArg List.length h2
        simp at this h3 ⊢; omega
    split at h
    · cases h
    split at h
    · split at h <;> cases h
    split at h
    · split at h <;> cases h
    split at h <;> cases h

/-- What lex.Split answers. -/
def splitR (p : (Int × Nat × Nat) ⊕ List Wd) : Option (Ex × St) := match p with
  | .inl (e, l, c) => sp_ret [] e l c
  | .inr ws => sp_ret (ws.map wdD) 0 0 0
def onto (out : List D) (p : (Int × Nat × Nat) ⊕ List Wd) : Option (Ex × St) := match p with
  | .inl (e, l, c) => sp_ret [] e l c
  | .inr ws => sp_ret (out ++ ws.map wdD) 0 0 0

theorem sp_all (t : List UInt8) (ht : t.length ≤ 65536) : ∀ (f i line first : Nat) (out cs : List D) (ex : List (Nat × V)), first ≤ i → i ≤ t.length → line ≤ i + 1 → out.length ≤ i → cs.length = 6 → t.length - i < f →
    X (M m) (.scope b_lex_Split_49 (.seq .skip sp_t7)) (sp_st t line first i out cs ex) = onto out (wordsF f (t.drop i) (line, i - first + 1)) := by
  intro f
  induction f with
  | zero => intro i line first out cs ex _ _ _ _ _ hf; omega
  | succ f ih =>
    intro i line first out cs ex h1 h2 h3 h4 h5 hf
    rcases Nat.lt_or_ge i t.length with hlt | hge
    case inr =>
      obtain rfl : i = t.length := by omega
      rw [sp_done t line first out cs ex ht h1 (by omega) (by omega) h5, List.drop_length]
      rfl
    have hg : t[i]? = some t[i] := by simp [hlt]
    have hd : t.drop i = t[i] :: t.drop (i + 1) := List.drop_eq_getElem_cons hlt
    have hd2 : (t.drop i).drop 2 = t.drop (i + 2) := by rw [List.drop_drop]
    have blank : ∀ (k : Nat) (line' first' : Nat), tok (t.drop i) = .blank k → (∃ cs' ex', cs'.length = 6 ∧ X (M m) (.scope b_lex_Split_49 (.seq .skip sp_t7)) (sp_st t line first i out cs ex) = X (M m) (.scope b_lex_Split_49 (.seq .skip sp_t7)) (sp_st t line' first' (i + k) out cs' ex')) →
        first' ≤ i + k → line' ≤ line + k → adv ((t.drop i).take k) (line, i - first + 1) = (line', i + k - first' + 1) →
        X (M m) (.scope b_lex_Split_49 (.seq .skip sp_t7)) (sp_st t line first i out cs ex) = onto out (wordsF (f + 1) (t.drop i) (line, i - first + 1)) := by
      intro k line' first' hk ⟨cs', ex', hl, hx⟩ hf' hl' ha
      have hb := tok_blank hk
      simp only [List.length_drop] at hb
      rw [hx, ih (i + k) line' first' out cs' ex' hf' (by omega) (by omega) (by omega) hl (by omega)]
      simp only [wordsF, hk, ha, List.drop_drop]
    have word : ∀ (kind : Int) (len : Nat) (n : Int) (bs : Nat) (b : List UInt8), tok (t.drop i) = .word kind len n bs b → (∃ cs' ex', cs'.length = 6 ∧ X (M m) (.scope b_lex_Split_49 (.seq .skip sp_t7)) (sp_st t line first i out cs ex) = X (M m) (.scope b_lex_Split_49 (.seq .skip sp_t7)) (sp_st t line first (i + len) (out ++ [wdD ⟨kind, (t.drop i).take len, n, bs, b, line, i - first + 1⟩]) cs' ex')) →
        X (M m) (.scope b_lex_Split_49 (.seq .skip sp_t7)) (sp_st t line first i out cs ex) = onto out (wordsF (f + 1) (t.drop i) (line, i - first + 1)) := by
      intro kind len n bs b hk ⟨cs', ex', hl, hx⟩
      obtain ⟨w1, w2, w3⟩ := tok_word hk
      have ha := adv_plain _ (line, i - first + 1) w3
      simp only [List.length_take, List.length_drop] at w2 ha
      rw [Nat.min_eq_left w2, show i - first + 1 + len = i + len - first + 1 by omega] at ha
      rw [hx, ih (i + len) line first _ cs' ex' (by omega) (by omega) (by omega) (by simp; omega) hl (by omega)]
      simp only [wordsF, hk, ha, List.drop_drop]
      cases wordsF f (t.drop (i + len)) (line, i + len - first + 1) with
      | inl e => rfl
      | inr ws => simp [onto]
    have fault : ∀ e : Int, tok (t.drop i) = .fault e → X (M m) (.scope b_lex_Split_49 (.seq .skip sp_t7)) (sp_st t line first i out cs ex) = sp_ret [] e line (i - first + 1 : Nat) →
        X (M m) (.scope b_lex_Split_49 (.seq .skip sp_t7)) (sp_st t line first i out cs ex) = onto out (wordsF (f + 1) (t.drop i) (line, i - first + 1)) := by
      intro e hk hx
      rw [hx]
      simp only [wordsF, hk, onto]
    have hadv : ∀ k, i + k ≤ t.length → adv ((t.drop i).take k) (line, i - first + 1) = ((posF t line first i k).1, i + k - (posF t line first i k).2 + 1) := posF_adv t line first i h1
    have one : (t.drop i).take 1 = [t[i]] := by rw [hd]; rfl
    generalize hcv : t[i] = c at *
    have A := fun h => sp_nl (m := m) t line first i out cs ex ht h1 hlt (by omega) (by omega) h5 c hg h
    by_cases b10 : c.toNat = 10
    · refine blank 1 (line + 1) (i + 1) ?_ (A b10) (by omega) (by omega) ?_
      · rw [hd]; simp [tok, b10]
      · rw [one]; simp [adv, b10]
    by_cases bws : c.toNat = 32 ∨ c.toNat = 9 ∨ c.toNat = 13
    · refine blank 1 line first ?_ (sp_ws (m := m) t line first i out cs ex ht h1 hlt (by omega) (by omega) h5 c hg bws) (by omega) (by omega) ?_
      · rw [hd]; simp [tok, bws]
      · rw [one]; simp [adv, b10]; omega
    have n1 : ¬ (c.toNat = 10 ∨ c.toNat = 32 ∨ c.toNat = 9 ∨ c.toNat = 13) := by omega
    by_cases n2 : (t.drop i).take 2 = [47, 47]
    · have hle := lnE_le (t.drop i)
      simp only [List.length_drop] at hle
      refine blank (lnE (t.drop i)) line first ?_ (sp_line (m := m) t line first i out cs ex ht h1 hlt (by omega) (by omega) h5 c hg n2) (by omega) (by omega) ?_
      · rw [hd] at n2 ⊢; rw [tok, if_neg n1, if_pos n2]
      · rw [adv_plain _ _ (lnE_plain _), List.length_take, List.length_drop, Nat.min_eq_left hle]
        simp only [Prod.mk.injEq, true_and]; omega
    by_cases n3 : (t.drop i).take 2 = [47, 42]
    · have hs := sp_comment (m := m) t line first i out cs ex ht h1 hlt (by omega) (by omega) h5 c hg n3
      cases hk : ce (t.drop (i + 2)) with
      | none =>
        rw [hk] at hs
        refine fault 11 ?_ hs
        rw [← hd2] at hk
        rw [hd] at n2 n3 hk ⊢
        rw [tok, if_neg n1, if_neg n2, if_pos n3, hk]
      | some k =>
        rw [hk] at hs
        have hb : tok (t.drop i) = .blank (k + 4) := by
          rw [← hd2] at hk
          rw [hd] at n2 n3 hk ⊢
          rw [tok, if_neg n1, if_neg n2, if_pos n3, hk]
        have hbl := tok_blank hb
        simp only [List.length_drop] at hbl
        have hle := posF_le t line first i h1 (k + 4)
        have hk4 : i + (k + 4) ≤ t.length := by clear hs A; omega
        exact blank (k + 4) _ _ hb hs hle.2 hle.1 (hadv (k + 4) hk4)
    cases hL : isLetter c.toNat with
    | true =>
      refine word 1 (wl (t.drop i)) 0 0 [] ?_ (sp_name (m := m) t line first i out cs ex ht h1 hlt (by omega) (by omega) h5 c hg n1 n2 n3 hL)
      rw [hd] at n2 n3 ⊢; rw [tok, if_neg n1, if_neg n2, if_neg n3, if_pos hL]
    | false =>
      cases hD : isDigit c.toNat with
      | true =>
        have hs := sp_number (m := m) t line first i out cs ex ht h1 hlt (by omega) (by omega) h5 c hg n1 n2 n3 hL hD
        by_cases he : (numberL (t.drop i)).2.2 = 0
        · rw [if_pos he] at hs
          refine word 2 (numberL (t.drop i)).1 (numberL (t.drop i)).2.1 0 [] ?_ hs
          rw [hd] at n2 n3 he ⊢; rw [tok, if_neg n1, if_neg n2, if_neg n3, if_neg (show ¬ isLetter c.toNat = true by rw [hL]; decide), if_pos hD, if_pos he]
        · rw [if_neg he] at hs
          refine fault _ ?_ hs
          rw [hd] at n2 n3 he ⊢; rw [tok, if_neg n1, if_neg n2, if_neg n3, if_neg (show ¬ isLetter c.toNat = true by rw [hL]; decide), if_pos hD, if_neg he]
      | false =>
        by_cases h34 : c.toNat = 34
        · have hs := sp_text (m := m) t line first i out cs ex ht h1 hlt (by omega) (by omega) h5 c hg n1 n2 n3 hL hD h34
          by_cases he : (quotedL (t.drop i)).1 = 0
          · rw [if_pos he] at hs
            refine fault 11 ?_ hs
            rw [hd] at n2 n3 he ⊢; rw [tok, if_neg n1, if_neg n2, if_neg n3, if_neg (show ¬ isLetter c.toNat = true by rw [hL]; decide), if_neg (show ¬ isDigit c.toNat = true by rw [hD]; decide), if_pos h34, if_pos he]
          · rw [if_neg he] at hs
            refine word 3 (quotedL (t.drop i)).1 0 1 (quotedL (t.drop i)).2 ?_ hs
            rw [hd] at n2 n3 he ⊢; rw [tok, if_neg n1, if_neg n2, if_neg n3, if_neg (show ¬ isLetter c.toNat = true by rw [hL]; decide), if_neg (show ¬ isDigit c.toNat = true by rw [hD]; decide), if_pos h34, if_neg he]
        · cases hS : isSign c.toNat with
          | true =>
            refine word 4 1 0 0 [] ?_ (sp_sign (m := m) t line first i out cs ex ht h1 hlt (by omega) (by omega) h5 c hg n1 n2 n3 hL hD h34 hS)
            rw [hd] at n2 n3 ⊢; rw [tok, if_neg n1, if_neg n2, if_neg n3, if_neg (show ¬ isLetter c.toNat = true by rw [hL]; decide), if_neg (show ¬ isDigit c.toNat = true by rw [hD]; decide), if_neg h34, if_pos hS]
          | false =>
            refine fault 11 ?_ (sp_bad (m := m) t line first i out cs ex ht h1 hlt (by omega) (by omega) h5 c hg n1 n2 n3 hL hD h34 hS)
            rw [hd] at n2 n3 ⊢; rw [tok, if_neg n1, if_neg n2, if_neg n3, if_neg (show ¬ isLetter c.toNat = true by rw [hL]; decide), if_neg (show ¬ isDigit c.toNat = true by rw [hD]; decide), if_neg h34, if_neg (show ¬ isSign c.toNat = true by rw [hS]; decide)]

/-- The words of a text, or its first fault. -/
def splitL (t : List UInt8) : (Int × Nat × Nat) ⊕ List Wd := if 65536 < t.length then .inl (1, 0, 0) else wordsF (t.length + 1) t (1, 1)
def faultD (p : (Int × Nat × Nat) ⊕ List Wd) : D := match p with
  | .inl (e, l, c) => .agg [.int .i64 e, .int .i64 0, .int .i64 l, .int .i64 c]
  | .inr _ => .agg [.int .i64 0, .int .i64 0, .int .i64 0, .int .i64 0]
def wordsD (p : (Int × Nat × Nat) ⊕ List Wd) : List D := match p with
  | .inl _ => []
  | .inr ws => ws.map wdD
theorem split_spec (t : List UInt8) (hb : t.length ≤ 9223372036854775807) : C (M m) 7 [.d (.str t)] = some (.tup [.slice 6 (wordsD (splitL t)), faultD (splitL t)]) := by
  rw [c_fn (sf := f_lex_Split) rfl rfl ⟨rfl, rfl⟩]
  by_cases hbig : 65536 < t.length
  · have hs : X (M m) (.scope b_lex_Split_49 b_lex_Split_49) { env := [(0, .d (.str t)), (3, .lref 3 0), (3, .lref 3 0)], bx := [(3, [.int .i64 0, .int .i64 0, .int .i64 0, .int .i64 0]), (3, [.int .i64 0, .int .i64 0, .int .i64 0, .int .i64 0])] } = sp_ret [] 1 0 0 := by
      conv => lhs; rw [show b_lex_Split_49.scope b_lex_Split_49 = b_lex_Split_49.scope sp_t0 from rfl]
      rw [X_scope]
      simp -implicitDefEqProofs (maxSteps := 1000000) (disch := omega) only [↓Int.reduceLT, ↓Int.reduceLE, ↓Int.reduceEq, ↓Nat.reduceEqDiff, Nat.reduceBEq, ↓reduceIte, St.toRS, restrict, initEnv, plainArgs, reduceCtorEq, Nat.reduceEqDiff, Nat.reduceAdd, Nat.reduceMul, Int.reduceLT, Int.reduceLE, Int.reduceEq, Int.reduceNeg, Int.reduceAdd, Int.reduceToNat, Int.reduceNe, Nat.reduceSub, Int.reducePow, Int.reduceMul, vb0, vb1, vb2, vb3, vb4, vb5, vb6, vb7, sp_t0, sp_p0, jumpR, fill, setAt, List.set_cons_succ, List.set_cons_zero, sp_ret]
    simp only [sp_ret] at hs
    simp -implicitDefEqProofs (maxSteps := 1000000) (disch := omega) only [↓Int.reduceLT, ↓Int.reduceLE, ↓Int.reduceEq, ↓Nat.reduceEqDiff, Nat.reduceBEq, ↓reduceIte, St.toRS, restrict, initEnv, plainArgs, reduceCtorEq, Nat.reduceEqDiff, Nat.reduceAdd, Nat.reduceMul, Int.reduceLT, Int.reduceLE, Int.reduceEq, Int.reduceNeg, Int.reduceAdd, Int.reduceToNat, Int.reduceNe, Nat.reduceSub, Int.reducePow, Int.reduceMul, vb0, vb1, vb2, vb3, vb4, vb5, vb6, vb7, f_lex_Split, SC.scp, hs, splitL, hbig, wordsD, faultD, sub, List.drop_zero, List.take_succ_cons, List.take_zero]
  · have hl := sp_all (m := m) t (by omega) (t.length + 1) 0 1 0 [] [.int .i64 0, .str [], .int .u64 0, .slice 0 [], .int .i64 0, .int .i64 0] [] (by omega) (by omega) (by omega) (by simp) rfl (by omega)
    simp only [List.drop_zero, Nat.sub_zero, Nat.zero_add] at hl
    have hs : X (M m) (.scope b_lex_Split_49 b_lex_Split_49) { env := [(0, .d (.str t)), (3, .lref 3 0), (3, .lref 3 0)], bx := [(3, [.int .i64 0, .int .i64 0, .int .i64 0, .int .i64 0]), (3, [.int .i64 0, .int .i64 0, .int .i64 0, .int .i64 0])] } = onto [] (wordsF (t.length + 1) t (1, 1)) := by
      rw [← hl]
      conv => lhs; rw [show b_lex_Split_49.scope b_lex_Split_49 = b_lex_Split_49.scope sp_t0 from rfl]
      rw [X_scope, X_scope]
      simp -implicitDefEqProofs (maxSteps := 1000000) (disch := omega) only [↓Int.reduceLT, ↓Int.reduceLE, ↓Int.reduceEq, ↓Nat.reduceEqDiff, Nat.reduceBEq, ↓reduceIte, St.toRS, restrict, initEnv, plainArgs, reduceCtorEq, Nat.reduceEqDiff, Nat.reduceAdd, Nat.reduceMul, Int.reduceLT, Int.reduceLE, Int.reduceEq, Int.reduceNeg, Int.reduceAdd, Int.reduceToNat, Int.reduceNe, Nat.reduceSub, Int.reducePow, Int.reduceMul, vb0, vb1, vb2, vb3, vb4, vb5, vb6, vb7, sp_t0, sp_p0, sp_t1, sp_p1, sp_t2, sp_p2, sp_t3, sp_p3, sp_t4, sp_p4, sp_t5, sp_p5, sp_t6, sp_p6, jumpR, fill, setAt, List.set_cons_succ, List.set_cons_zero, sp_st]
    cases hw : wordsF (t.length + 1) t (1, 1) with
    | inl e =>
      obtain ⟨e, l, c⟩ := e
      simp only [hw, onto, sp_ret] at hs
      simp -implicitDefEqProofs (maxSteps := 1000000) (disch := omega) only [↓Int.reduceLT, ↓Int.reduceLE, ↓Int.reduceEq, ↓Nat.reduceEqDiff, Nat.reduceBEq, ↓reduceIte, St.toRS, restrict, initEnv, plainArgs, reduceCtorEq, Nat.reduceEqDiff, Nat.reduceAdd, Nat.reduceMul, Int.reduceLT, Int.reduceLE, Int.reduceEq, Int.reduceNeg, Int.reduceAdd, Int.reduceToNat, Int.reduceNe, Nat.reduceSub, Int.reducePow, Int.reduceMul, vb0, vb1, vb2, vb3, vb4, vb5, vb6, vb7, f_lex_Split, SC.scp, hs, splitL, hbig, hw, wordsD, faultD, sub, List.drop_zero, List.take_succ_cons, List.take_zero]
    | inr ws =>
      simp only [hw, onto, sp_ret, List.nil_append] at hs
      simp -implicitDefEqProofs (maxSteps := 1000000) (disch := omega) only [↓Int.reduceLT, ↓Int.reduceLE, ↓Int.reduceEq, ↓Nat.reduceEqDiff, Nat.reduceBEq, ↓reduceIte, St.toRS, restrict, initEnv, plainArgs, reduceCtorEq, Nat.reduceEqDiff, Nat.reduceAdd, Nat.reduceMul, Int.reduceLT, Int.reduceLE, Int.reduceEq, Int.reduceNeg, Int.reduceAdd, Int.reduceToNat, Int.reduceNe, Nat.reduceSub, Int.reducePow, Int.reduceMul, vb0, vb1, vb2, vb3, vb4, vb5, vb6, vb7, f_lex_Split, SC.scp, hs, splitL, hbig, hw, wordsD, faultD, sub, List.drop_zero, List.take_succ_cons, List.take_zero]
end Go.Proofs.Ytladdhfkmnhmfaa
