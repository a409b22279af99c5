/-
  The law LexPlaces, over data: places rise; each word stands at its place.
-/
import Derived.Test.YtladdhfkmnhmfaaSplits
set_option linter.unusedVariables false
set_option linter.unusedSimpArgs false
set_option maxRecDepth 100000
set_option maxHeartbeats 8000000
namespace Go.Proofs.Ytladdhfkmnhmfaa
open Go.Vi
variable {m : Int}

/-! ### Places rise -/
def plc (t : List UInt8) (i : Nat) : Nat × Nat := adv (t.take i) (1, 1)
def before (p q : Nat × Nat) : Prop := p.1 < q.1 ∨ (p.1 = q.1 ∧ p.2 < q.2)
theorem adv_before : ∀ (a : List UInt8) (p : Nat × Nat), a ≠ [] → before p (adv a p)
  | [], p, h => absurd rfl h
  | c :: a, p, _ => by
    have h1 : before p (if c.toNat = 10 then (p.1 + 1, 1) else (p.1, p.2 + 1)) := by
      split
      · left; simp
      · right; simp
    rcases a with _ | ⟨d, a⟩
    · simpa [adv] using h1
    · have h2 := adv_before (d :: a) (if c.toNat = 10 then (p.1 + 1, 1) else (p.1, p.2 + 1)) (by simp)
      simp only [adv, List.foldl_cons] at h2 ⊢
      generalize (if c.toNat = 10 then (p.1 + 1, 1) else (p.1, p.2 + 1)) = q at *
      simp only [before] at *
      omega
theorem plc_inj {t : List UInt8} {i j : Nat} (hi : i ≤ t.length) (hj : j ≤ t.length) (h : plc t i = plc t j) : i = j := by
  have gen : ∀ a b : Nat, a < b → b ≤ t.length → plc t a ≠ plc t b := by
    intro a b hab hb he
    have e : plc t b = adv ((t.drop a).take (b - a)) (plc t a) := by
      simp only [plc]
      rw [← adv_append, ← List.take_add, show a + (b - a) = b by omega]
    have hne : (t.drop a).take (b - a) ≠ [] := by
      intro h0
      have := congrArg List.length h0
      simp at this; omega
    have := adv_before _ (plc t a) hne
    rw [← e, ← he] at this
    simp only [before] at this
    omega
  rcases Nat.lt_trichotomy i j with hlt | heq | hgt
  · exact absurd h (gen i j hlt hj)
  · exact heq
  · exact absurd h.symm (gen j i hgt hi)
theorem plc_zero (t : List UInt8) : plc t 0 = (1, 1) := rfl
theorem plc_succ {t : List UInt8} {i : Nat} {c : UInt8} (hg : t[i]? = some c) : plc t (i + 1) = if c.toNat = 10 then ((plc t i).1 + 1, 1) else ((plc t i).1, (plc t i).2 + 1) := by
  simp only [plc, List.take_add_one, hg, Option.toList_some, adv_append]
  simp only [adv, List.foldl_cons, List.foldl_nil]
theorem plc_le (t : List UInt8) (i : Nat) (hi : i ≤ t.length) (ht : t.length ≤ 65536) : (plc t i).1 ≤ 65537 ∧ (plc t i).2 ≤ 65538 := by
  have := adv_le (t.take i) (1, 1)
  simp only [List.length_take] at this
  simp only [plc]
  omega

/-- Words that stand in a text from a place on. -/
inductive Pl (t : List UInt8) : Nat → List Wd → Prop
  | last (i : Nat) (w : Wd) : i ≤ t.length → (w.line, w.col) = plc t t.length → w.kind = 5 → w.s = [] → Pl t i [w]
  | word (i j : Nat) (w : Wd) (ws : List Wd) : i ≤ j → j + w.s.length ≤ t.length → (t.drop j).take w.s.length = w.s → 1 ≤ w.s.length → w.kind ≠ 5 → (w.line, w.col) = plc t j → Pl t (j + 1) ws → Pl t i (w :: ws)
theorem Pl_open {t : List UInt8} {i : Nat} {w : Wd} {rest : List Wd} (h : Pl t i (w :: rest)) :
    (rest = [] ∧ i ≤ t.length ∧ (w.line, w.col) = plc t t.length ∧ w.kind = 5 ∧ w.s = []) ∨
    (∃ j, i ≤ j ∧ j + w.s.length ≤ t.length ∧ (t.drop j).take w.s.length = w.s ∧ 1 ≤ w.s.length ∧ w.kind ≠ 5 ∧ (w.line, w.col) = plc t j ∧ Pl t (j + 1) rest) := by
  generalize hx : w :: rest = l at h
  induction h with
  | last i w' h1 h2 h3 h4 =>
    simp only [List.cons.injEq] at hx
    obtain ⟨rfl, rfl⟩ := hx
    exact Or.inl ⟨rfl, h1, h2, h3, h4⟩
  | word i j w' ws h1 h2 h3 h4 h5 h6 h7 _ =>
    simp only [List.cons.injEq] at hx
    obtain ⟨rfl, rfl⟩ := hx
    exact Or.inr ⟨j, h1, h2, h3, h4, h5, h6, h7⟩
theorem Pl.mono {t : List UInt8} {i k : Nat} {ws : List Wd} (h : Pl t i ws) (hk : k ≤ i) : Pl t k ws := by
  cases ws with
  | nil => cases h
  | cons w rest =>
    rcases Pl_open h with ⟨rfl, h1, h2, h3, h4⟩ | ⟨j, h1, h2, h3, h4, h5, h6, h7⟩
    · exact .last k w (by omega) h2 h3 h4
    · exact .word k j w rest (by omega) h2 h3 h4 h5 h6 h7
theorem tok_kind {r : List UInt8} {kind : Int} {len : Nat} {n : Int} {bs : Nat} {b : List UInt8} (h : tok r = .word kind len n bs b) : kind ≠ 5 := by
  cases r with
  | nil => simp [tok] at h
  | cons c r =>
    rw [tok] at h
    split at h
    · cases h
    split at h
    · cases h
    split at h
    · split at h <;> cases h
    split at h
    · cases h; decide
    split at h
    · split at h
      · cases h; decide
      · cases h
    split at h
    · split at h
      · cases h
      · cases h; decide
    split at h
    · cases h; decide
    · cases h
theorem Pl_of (t : List UInt8) : ∀ (f i : Nat) (ws : List Wd), i ≤ t.length → wordsF f (t.drop i) (plc t i) = .inr ws → Pl t i ws := by
  intro f
  induction f with
  | zero => intro i ws hi h; simp [wordsF] at h
  | succ f ih =>
    intro i ws hi h
    have hadv : ∀ k, adv ((t.drop i).take k) (plc t i) = plc t (i + k) := by
      intro k; simp only [plc]; rw [List.take_add, adv_append]
    simp only [wordsF] at h
    cases hk : tok (t.drop i) with
    | done =>
      rw [hk] at h
      have he : i = t.length := by
        rcases Nat.lt_or_ge i t.length with hlt | hge
        · rw [List.drop_eq_getElem_cons hlt, tok] at hk
          split at hk
          · cases hk
          split at hk
          · cases hk
          split at hk
          · split at hk <;> cases hk
          split at hk
          · cases hk
          split at hk
          · split at hk <;> cases hk
          split at hk
          · split at hk <;> cases hk
          split at hk <;> cases hk
        · omega
      cases h
      exact .last i _ hi (by rw [he]) rfl rfl
    | fault e => rw [hk] at h; cases h
    | blank k =>
      rw [hk] at h
      have hb := tok_blank hk
      simp only [List.length_drop] at hb
      simp only [List.drop_drop, hadv] at h
      exact (ih (i + k) ws (by omega) h).mono (by omega)
    | word kind len n bs b =>
      rw [hk] at h
      obtain ⟨w1, w2, w3⟩ := tok_word hk
      simp only [List.length_drop] at w2
      simp only [List.drop_drop, hadv] at h
      cases hw : wordsF f (t.drop (i + len)) (plc t (i + len)) with
      | inl e => rw [hw] at h; cases h
      | inr ws' =>
        rw [hw] at h
        cases h
        have hl : ((t.drop i).take len).length = len := by simp; omega
        refine .word i i _ ws' (Nat.le_refl _) ?_ ?_ ?_ (tok_kind hk) rfl ((ih (i + len) ws' (by omega) hw).mono (by omega))
        · simp only [hl]; omega
        · simp only [hl]
        · simp only [hl]; exact w1
theorem Pl_end {t : List UInt8} {i : Nat} {ws : List Wd} (h : Pl t i ws) : ∃ w, ws[ws.length - 1]? = some w ∧ w.kind = 5 ∧ 0 < ws.length := by
  induction h with
  | last i w h1 h2 h3 h4 => exact ⟨w, rfl, h3, by simp⟩
  | word i j w ws h1 h2 h3 h4 h5 h6 h7 ih =>
    obtain ⟨x, hx, hk, hl⟩ := ih
    refine ⟨x, ?_, hk, by simp⟩
    rw [List.length_cons, Nat.add_sub_cancel, ← hx]
    rw [show ws.length = ws.length - 1 + 1 by omega, List.getElem?_cons_succ]
    simp

theorem fault_tok {r : List UInt8} {e : Int} (h : tok r = .fault e) : e ≠ 0 := by
  cases r with
  | nil => simp [tok] at h
  | cons c r =>
    rw [tok] at h
    split at h
    · cases h
    split at h
    · cases h
    split at h
    · split at h
      · cases h; decide
      · cases h
    split at h
    · cases h
    split at h
    · split at h
      · cases h
      · rename_i hn; cases h; exact hn
    split at h
    · split at h
      · cases h; decide
      · cases h
    split at h
    · cases h
    · cases h; decide
theorem fault_words : ∀ (f : Nat) (r : List UInt8) (p : Nat × Nat) (e : Int × Nat × Nat), r.length < f → wordsF f r p = .inl e → e.1 ≠ 0 := by
  intro f
  induction f with
  | zero => intro r p e h; omega
  | succ f ih =>
    intro r p e hl h
    simp only [wordsF] at h
    cases hk : tok r with
    | done => rw [hk] at h; cases h
    | fault x => rw [hk] at h; cases h; exact fault_tok hk
    | blank k =>
      rw [hk] at h
      have hb := tok_blank hk
      exact ih _ _ _ (by simp; omega) h
    | word kind len n bs b =>
      rw [hk] at h
      have hb := tok_word hk
      simp only at h
      cases hw : wordsF f (r.drop len) (adv (r.take len) p) with
      | inl x => rw [hw] at h; cases h; exact ih _ _ _ (by simp; omega) hw
      | inr ws => rw [hw] at h; cases h
theorem fault_code (t : List UInt8) (e : Int × Nat × Nat) (h : splitL t = .inl e) : e.1 ≠ 0 := by
  unfold splitL at h
  split at h
  · cases h; decide
  · exact fault_words _ _ _ _ (by omega) h

/-! ### The law -/
def pl_st (t : List UInt8) (W : List D) (p : Nat × Nat) (k i : Nat) : St :=
  { env := [(0, .d (.str t)), (3, .d (.slice 6 W)), (5, .d (.int .i64 p.1)), (6, .d (.int .i64 p.2)), (7, .d (.int .i64 k)), (8, .d (.int .i64 i))], bx := [] }
theorem pl_step (t : List UInt8) (ws : List Wd) (ht : t.length ≤ 65536) (hwl : ws.length ≤ 65537) (k i : Nat) (hi : i ≤ t.length) (hk : k ≤ ws.length) (h : Pl t i (ws.drop k)) :
    ∃ k' q, k' ≤ ws.length ∧ X (M m) l_law4_LexPlaces_1 (pl_st t (ws.map wdD) (plc t i) k i) = some (.norm, pl_st t (ws.map wdD) q k' (i + 1)) ∧ (i < t.length → q = plc t (i + 1) ∧ Pl t (i + 1) (ws.drop k')) ∧ (i = t.length → k' = ws.length) := by
  have hm : (ws.map wdD).length = ws.length := by simp
  have hpl := plc_le t i hi ht
  cases hd : ws.drop k with
  | nil => rw [hd] at h; cases h
  | cons w rest =>
    rw [hd] at h
    have hkl : k < ws.length := by
      have := congrArg List.length hd
      simp at this; omega
    have hd1 : ws.drop (k + 1) = rest := by
      rw [← List.drop_drop, hd]; rfl
    have hwk : ws[k]? = some w := by
      have := congrArg (fun l => l[0]?) hd
      simpa using this
    have hw : (ws.map wdD)[k]? = some (wdD w) := by rw [List.getElem?_map, hwk]; rfl
    simp only [wdD] at hw
    generalize hW : ws.map wdD = W at *
    rcases Pl_open h with ⟨rfl, h1, h2, h3, h4⟩ | ⟨j, h1, h2, h3, h4, h5, h6, h7⟩
    · skip
      have hlen : ws.length = k + 1 := by
        have := congrArg List.length hd
        simp at this; omega
      rcases Nat.lt_or_ge i t.length with hlt | hge
      · have hg : t[i]? = some t[i] := by simp [hlt]
        have hne : plc t i ≠ (w.line, w.col) := by
          rw [h2]; intro he; have := plc_inj hi (Nat.le_refl _) he; omega
        have hs := plc_succ hg
        generalize t[i] = c at hg hs
        have hc := c.toNat_lt
        generalize plc t i = p at *
        obtain ⟨a, b⟩ := p
        simp only [ne_eq, Prod.mk.injEq, not_and] at hne
        refine ⟨k, plc t (i + 1), by omega, ?_, fun _ => ⟨rfl, ?_⟩, fun h => by omega⟩
        · by_cases hl : (w.line : Int) = a
          · have hcol : (w.col : Int) ≠ b := by
              intro hb; exact hne (by omega) (by omega)
            by_cases h10 : c.toNat = 10
            · rw [hs, if_pos h10]
              simp -implicitDefEqProofs (maxSteps := 1000000) (disch := omega) only [↓Int.reduceLT, ↓Int.reduceLE, ↓Int.reduceEq, ↓Nat.reduceEqDiff, Nat.reduceBEq, ↓reduceIte, St.toRS, restrict, initEnv, plainArgs, reduceCtorEq, Nat.reduceEqDiff, Nat.reduceAdd, Nat.reduceMul, Int.reduceLT, Int.reduceLE, Int.reduceEq, Int.reduceNeg, Int.reduceAdd, Int.reduceToNat, Int.reduceNe, Nat.reduceSub, Int.reducePow, Int.reduceMul, vb0, vb1, vb2, vb3, vb4, vb5, vb6, vb7, l_law4_LexPlaces_1, pl_st, hm, hw, sub, List.getElem?_cons_zero, List.getElem?_cons_succ, hg]
            · rw [hs, if_neg h10]
              simp -implicitDefEqProofs (maxSteps := 1000000) (disch := omega) only [↓Int.reduceLT, ↓Int.reduceLE, ↓Int.reduceEq, ↓Nat.reduceEqDiff, Nat.reduceBEq, ↓reduceIte, St.toRS, restrict, initEnv, plainArgs, reduceCtorEq, Nat.reduceEqDiff, Nat.reduceAdd, Nat.reduceMul, Int.reduceLT, Int.reduceLE, Int.reduceEq, Int.reduceNeg, Int.reduceAdd, Int.reduceToNat, Int.reduceNe, Nat.reduceSub, Int.reducePow, Int.reduceMul, vb0, vb1, vb2, vb3, vb4, vb5, vb6, vb7, l_law4_LexPlaces_1, pl_st, hm, hw, sub, List.getElem?_cons_zero, List.getElem?_cons_succ, hg]
          · by_cases h10 : c.toNat = 10
            · rw [hs, if_pos h10]
              simp -implicitDefEqProofs (maxSteps := 1000000) (disch := omega) only [↓Int.reduceLT, ↓Int.reduceLE, ↓Int.reduceEq, ↓Nat.reduceEqDiff, Nat.reduceBEq, ↓reduceIte, St.toRS, restrict, initEnv, plainArgs, reduceCtorEq, Nat.reduceEqDiff, Nat.reduceAdd, Nat.reduceMul, Int.reduceLT, Int.reduceLE, Int.reduceEq, Int.reduceNeg, Int.reduceAdd, Int.reduceToNat, Int.reduceNe, Nat.reduceSub, Int.reducePow, Int.reduceMul, vb0, vb1, vb2, vb3, vb4, vb5, vb6, vb7, l_law4_LexPlaces_1, pl_st, hm, hw, sub, List.getElem?_cons_zero, List.getElem?_cons_succ, hg]
            · rw [hs, if_neg h10]
              simp -implicitDefEqProofs (maxSteps := 1000000) (disch := omega) only [↓Int.reduceLT, ↓Int.reduceLE, ↓Int.reduceEq, ↓Nat.reduceEqDiff, Nat.reduceBEq, ↓reduceIte, St.toRS, restrict, initEnv, plainArgs, reduceCtorEq, Nat.reduceEqDiff, Nat.reduceAdd, Nat.reduceMul, Int.reduceLT, Int.reduceLE, Int.reduceEq, Int.reduceNeg, Int.reduceAdd, Int.reduceToNat, Int.reduceNe, Nat.reduceSub, Int.reducePow, Int.reduceMul, vb0, vb1, vb2, vb3, vb4, vb5, vb6, vb7, l_law4_LexPlaces_1, pl_st, hm, hw, sub, List.getElem?_cons_zero, List.getElem?_cons_succ, hg]
        · rw [hd]; exact .last (i + 1) w (by omega) h2 h3 h4
      · obtain rfl : i = t.length := by omega
        refine ⟨k + 1, ((plc t t.length).1, (plc t t.length).2 + 1), by omega, ?_, fun h => by omega, fun _ => by omega⟩
        rw [← h2] at hpl ⊢
        rw [h3, h4] at hw
        simp only at hpl
        simp -implicitDefEqProofs (maxSteps := 1000000) (disch := omega) only [↓Int.reduceLT, ↓Int.reduceLE, ↓Int.reduceEq, ↓Nat.reduceEqDiff, Nat.reduceBEq, ↓reduceIte, St.toRS, restrict, initEnv, plainArgs, reduceCtorEq, Nat.reduceEqDiff, Nat.reduceAdd, Nat.reduceMul, Int.reduceLT, Int.reduceLE, Int.reduceEq, Int.reduceNeg, Int.reduceAdd, Int.reduceToNat, Int.reduceNe, Nat.reduceSub, Int.reducePow, Int.reduceMul, vb0, vb1, vb2, vb3, vb4, vb5, vb6, vb7, l_law4_LexPlaces_1, pl_st, hm, hw, sub, List.getElem?_cons_zero, List.getElem?_cons_succ, List.take_length, List.drop_length, List.length_nil, Nat.add_zero]
    · skip
      have hlt : i < t.length := by omega
      have hg : t[i]? = some t[i] := by simp [hlt]
      have hs := plc_succ hg
      by_cases hij : j = i
      · subst hij
        rw [← h6] at hs hpl ⊢
        have hcut : (t.take (j + w.s.length)).drop j = w.s := by rw [List.drop_take, show j + w.s.length - j = w.s.length by omega, h3]
        generalize t[j] = c at hg hs
        have hc := c.toNat_lt
        refine ⟨k + 1, plc t (j + 1), by omega, ?_, fun _ => ⟨rfl, hd1 ▸ h7⟩, fun h => by omega⟩
        have h5' : w.kind ≠ 5 := h5
        by_cases h10 : c.toNat = 10
        · rw [hs, if_pos h10]
          simp -implicitDefEqProofs (maxSteps := 1000000) (disch := omega) only [↓Int.reduceLT, ↓Int.reduceLE, ↓Int.reduceEq, ↓Nat.reduceEqDiff, Nat.reduceBEq, ↓reduceIte, St.toRS, restrict, initEnv, plainArgs, reduceCtorEq, Nat.reduceEqDiff, Nat.reduceAdd, Nat.reduceMul, Int.reduceLT, Int.reduceLE, Int.reduceEq, Int.reduceNeg, Int.reduceAdd, Int.reduceToNat, Int.reduceNe, Nat.reduceSub, Int.reducePow, Int.reduceMul, vb0, vb1, vb2, vb3, vb4, vb5, vb6, vb7, l_law4_LexPlaces_1, pl_st, hm, hw, sub, List.getElem?_cons_zero, List.getElem?_cons_succ, hg, hcut]
        · rw [hs, if_neg h10]
          simp -implicitDefEqProofs (maxSteps := 1000000) (disch := omega) only [↓Int.reduceLT, ↓Int.reduceLE, ↓Int.reduceEq, ↓Nat.reduceEqDiff, Nat.reduceBEq, ↓reduceIte, St.toRS, restrict, initEnv, plainArgs, reduceCtorEq, Nat.reduceEqDiff, Nat.reduceAdd, Nat.reduceMul, Int.reduceLT, Int.reduceLE, Int.reduceEq, Int.reduceNeg, Int.reduceAdd, Int.reduceToNat, Int.reduceNe, Nat.reduceSub, Int.reducePow, Int.reduceMul, vb0, vb1, vb2, vb3, vb4, vb5, vb6, vb7, l_law4_LexPlaces_1, pl_st, hm, hw, sub, List.getElem?_cons_zero, List.getElem?_cons_succ, hg, hcut]
      · have hne : plc t i ≠ (w.line, w.col) := by
          rw [h6]; intro he; have := plc_inj hi (by omega) he; omega
        generalize t[i] = c at hg hs
        have hc := c.toNat_lt
        generalize plc t i = p at *
        obtain ⟨a, b⟩ := p
        simp only [ne_eq, Prod.mk.injEq, not_and] at hne
        refine ⟨k, plc t (i + 1), by omega, ?_, fun _ => ⟨rfl, hd ▸ .word (i + 1) j w rest (by omega) h2 h3 h4 h5 h6 h7⟩, fun h => by omega⟩
        by_cases hl : (w.line : Int) = a
        · have hcol : (w.col : Int) ≠ b := by
            intro hb; exact hne (by omega) (by omega)
          by_cases h10 : c.toNat = 10
          · rw [hs, if_pos h10]
            simp -implicitDefEqProofs (maxSteps := 1000000) (disch := omega) only [↓Int.reduceLT, ↓Int.reduceLE, ↓Int.reduceEq, ↓Nat.reduceEqDiff, Nat.reduceBEq, ↓reduceIte, St.toRS, restrict, initEnv, plainArgs, reduceCtorEq, Nat.reduceEqDiff, Nat.reduceAdd, Nat.reduceMul, Int.reduceLT, Int.reduceLE, Int.reduceEq, Int.reduceNeg, Int.reduceAdd, Int.reduceToNat, Int.reduceNe, Nat.reduceSub, Int.reducePow, Int.reduceMul, vb0, vb1, vb2, vb3, vb4, vb5, vb6, vb7, l_law4_LexPlaces_1, pl_st, hm, hw, sub, List.getElem?_cons_zero, List.getElem?_cons_succ, hg]
          · rw [hs, if_neg h10]
            simp -implicitDefEqProofs (maxSteps := 1000000) (disch := omega) only [↓Int.reduceLT, ↓Int.reduceLE, ↓Int.reduceEq, ↓Nat.reduceEqDiff, Nat.reduceBEq, ↓reduceIte, St.toRS, restrict, initEnv, plainArgs, reduceCtorEq, Nat.reduceEqDiff, Nat.reduceAdd, Nat.reduceMul, Int.reduceLT, Int.reduceLE, Int.reduceEq, Int.reduceNeg, Int.reduceAdd, Int.reduceToNat, Int.reduceNe, Nat.reduceSub, Int.reducePow, Int.reduceMul, vb0, vb1, vb2, vb3, vb4, vb5, vb6, vb7, l_law4_LexPlaces_1, pl_st, hm, hw, sub, List.getElem?_cons_zero, List.getElem?_cons_succ, hg]
        · by_cases h10 : c.toNat = 10
          · rw [hs, if_pos h10]
            simp -implicitDefEqProofs (maxSteps := 1000000) (disch := omega) only [↓Int.reduceLT, ↓Int.reduceLE, ↓Int.reduceEq, ↓Nat.reduceEqDiff, Nat.reduceBEq, ↓reduceIte, St.toRS, restrict, initEnv, plainArgs, reduceCtorEq, Nat.reduceEqDiff, Nat.reduceAdd, Nat.reduceMul, Int.reduceLT, Int.reduceLE, Int.reduceEq, Int.reduceNeg, Int.reduceAdd, Int.reduceToNat, Int.reduceNe, Nat.reduceSub, Int.reducePow, Int.reduceMul, vb0, vb1, vb2, vb3, vb4, vb5, vb6, vb7, l_law4_LexPlaces_1, pl_st, hm, hw, sub, List.getElem?_cons_zero, List.getElem?_cons_succ, hg]
          · rw [hs, if_neg h10]
            simp -implicitDefEqProofs (maxSteps := 1000000) (disch := omega) only [↓Int.reduceLT, ↓Int.reduceLE, ↓Int.reduceEq, ↓Nat.reduceEqDiff, Nat.reduceBEq, ↓reduceIte, St.toRS, restrict, initEnv, plainArgs, reduceCtorEq, Nat.reduceEqDiff, Nat.reduceAdd, Nat.reduceMul, Int.reduceLT, Int.reduceLE, Int.reduceEq, Int.reduceNeg, Int.reduceAdd, Int.reduceToNat, Int.reduceNe, Nat.reduceSub, Int.reducePow, Int.reduceMul, vb0, vb1, vb2, vb3, vb4, vb5, vb6, vb7, l_law4_LexPlaces_1, pl_st, hm, hw, sub, List.getElem?_cons_zero, List.getElem?_cons_succ, hg]
theorem pl_loop (t : List UInt8) (ws : List Wd) (ht : t.length ≤ 65536) (hwl : ws.length ≤ 65537) : ∀ (f k i : Nat), i ≤ t.length → t.length - i < f → k ≤ ws.length → Pl t i (ws.drop k) →
    ∃ ex q, X (M m) (.loop l_law4_LexPlaces_1) (pl_st t (ws.map wdD) (plc t i) k i) = some (.exit 0, { env := (pl_st t (ws.map wdD) q ws.length (t.length + 1)).env ++ ex, bx := [] }) := by
  intro f
  induction f with
  | zero => intro k i _ h; omega
  | succ f ih =>
    intro k i hi hf hk h
    obtain ⟨k', q, hk', hx, ha, hb⟩ := pl_step (m := m) t ws ht hwl k i hi hk h
    rcases Nat.lt_or_ge i t.length with hlt | hge
    · obtain ⟨rfl, hp⟩ := ha hlt
      obtain ⟨ex, q', hy⟩ := ih k' (i + 1) (by omega) (by omega) hk' hp
      exact ⟨ex, q', by rw [X_loop, hx]; exact hy⟩
    · have he : i = t.length := by omega
      have hk2 := hb he
      refine ⟨[(26, .d (.bool false))], q, ?_⟩
      rw [X_loop, hx, hk2, he]
      show X (M m) (.loop l_law4_LexPlaces_1) _ = _
      refine loop_exit ?_ (by simp)
      simp -implicitDefEqProofs (maxSteps := 1000000) (disch := omega) only [↓Int.reduceLT, ↓Int.reduceLE, ↓Int.reduceEq, ↓Nat.reduceEqDiff, Nat.reduceBEq, ↓reduceIte, St.toRS, restrict, initEnv, plainArgs, reduceCtorEq, Nat.reduceEqDiff, Nat.reduceAdd, Nat.reduceMul, Int.reduceLT, Int.reduceLE, Int.reduceEq, Int.reduceNeg, Int.reduceAdd, Int.reduceToNat, Int.reduceNe, Nat.reduceSub, Int.reducePow, Int.reduceMul, vb0, vb1, vb2, vb3, vb4, vb5, vb6, vb7, l_law4_LexPlaces_1, pl_st, List.cons_append, List.nil_append]

theorem places_data (t : List UInt8) (hb : t.length ≤ 9223372036854775807) : C (M m) n_law4_LexPlaces [.d (.str t)] = some (.d (.bool true)) := by
  rw [c_fn (sf := f_law4_LexPlaces) rfl rfl ⟨rfl, rfl⟩]
  have s1 := split_spec (m := m) t hb
  have s3 := awake_data (m := m)
  cases hs : splitL t with
  | inl e =>
    have he : e.1 ≠ 0 := fault_code t e hs
    obtain ⟨e, l, c⟩ := e
    simp only [hs, wordsD, faultD] at s1 he
    simp -implicitDefEqProofs (maxSteps := 1000000) (disch := omega) only [↓Int.reduceLT, ↓Int.reduceLE, ↓Int.reduceEq, ↓Nat.reduceEqDiff, Nat.reduceBEq, ↓reduceIte, St.toRS, restrict, initEnv, plainArgs, reduceCtorEq, Nat.reduceEqDiff, Nat.reduceAdd, Nat.reduceMul, Int.reduceLT, Int.reduceLE, Int.reduceEq, Int.reduceNeg, Int.reduceAdd, Int.reduceToNat, Int.reduceNe, Nat.reduceSub, Int.reducePow, Int.reduceMul, vb0, vb1, vb2, vb3, vb4, vb5, vb6, vb7, f_law4_LexPlaces, s1, s3, List.getElem?_cons_zero, List.getElem?_cons_succ, setAt, List.set_cons_succ, List.set_cons_zero, sub]
  | inr ws =>
    have hwl := words_small t ws hs
    simp only [hs, wordsD, faultD] at s1
    unfold splitL at hs
    split at hs
    · cases hs
    rename_i hbig
    have hP := Pl_of t (t.length + 1) 0 ws (by omega) hs
    obtain ⟨w, hw, hk, hl⟩ := Pl_end hP
    obtain ⟨ex, q, hx⟩ := pl_loop (m := m) t ws (by omega) hwl (t.length + 1) 0 0 (by omega) (by omega) (by omega) hP
    simp only [pl_st, plc_zero, Int.cast_ofNat_Int, List.cons_append, List.nil_append] at hx
    have hm : (ws.map wdD).length = ws.length := by simp
    have hw' : (ws.map wdD)[ws.length - 1]? = some (wdD w) := by rw [List.getElem?_map, hw]; rfl
    simp only [wdD, hk] at hw'
    generalize ws.map wdD = W at *
    simp -implicitDefEqProofs (maxSteps := 1000000) (disch := omega) only [↓Int.reduceLT, ↓Int.reduceLE, ↓Int.reduceEq, ↓Nat.reduceEqDiff, Nat.reduceBEq, ↓reduceIte, St.toRS, restrict, initEnv, plainArgs, reduceCtorEq, Nat.reduceEqDiff, Nat.reduceAdd, Nat.reduceMul, Int.reduceLT, Int.reduceLE, Int.reduceEq, Int.reduceNeg, Int.reduceAdd, Int.reduceToNat, Int.reduceNe, Nat.reduceSub, Int.reducePow, Int.reduceMul, vb0, vb1, vb2, vb3, vb4, vb5, vb6, vb7, f_law4_LexPlaces, s1, s3, List.getElem?_cons_zero, List.getElem?_cons_succ, setAt, List.set_cons_succ, List.set_cons_zero, sub, hx, hm, hw']
end Go.Proofs.Ytladdhfkmnhmfaa
