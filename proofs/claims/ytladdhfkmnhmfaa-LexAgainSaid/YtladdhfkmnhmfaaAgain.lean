/-
  Words, not blanks, matter: the plain law.
-/
import Derived.Test.YtladdhfkmnhmfaaPlaces
set_option linter.unusedVariables false
set_option linter.unusedSimpArgs false
set_option maxRecDepth 100000
set_option maxHeartbeats 8000000
namespace Go.Proofs.Ytladdhfkmnhmfaa
open Go.Vi
variable {m : Int}

/-- What may stand behind a word: no letter, no digit. -/
def endB (x : UInt8) : Bool := decide (x.toNat = 32 ∨ x.toNat = 10 ∨ x.toNat = 47)
theorem end_wl {x : UInt8} (h : endB x = true) (z : List UInt8) : wl (x :: z) = 0 := by
  simp only [endB, decide_eq_true_eq] at h
  simp only [wl]
  rw [if_neg]
  simp only [isLetter, isDigit, Bool.or_eq_true, decide_eq_true_eq]
  omega
theorem end_dgt {x : UInt8} (h : endB x = true) (hex : Bool) : dgt hex x = false := by
  simp only [endB, decide_eq_true_eq] at h
  have h1 : isDigit x.toNat = false := by simp only [isDigit, decide_eq_false_iff_not]; omega
  have h2 : hexI x.toNat = -1 := by
    simp only [hexI]
    rw [if_neg (by omega), if_neg (by omega), if_neg (by omega)]
  simp [dgt, h1, h2]

theorem wl_cut : ∀ (r : List UInt8) (x : UInt8) (z : List UInt8), endB x = true → wl (r.take (wl r) ++ x :: z) = wl r
  | [], x, z, h => by simp only [wl, List.take_nil, List.nil_append]; exact end_wl h z
  | c :: r, x, z, h => by
    cases hc : isLetter c.toNat || isDigit c.toNat with
    | false =>
      have : wl (c :: r) = 0 := by simp [wl, hc]
      rw [this, List.take_zero, List.nil_append, end_wl h]
    | true =>
      have : wl (c :: r) = wl r + 1 := by simp [wl, hc]
      rw [this, List.take_succ_cons, List.cons_append]
      have ih := wl_cut r x z h
      simp only [wl, hc, if_true, ih]
theorem numL_cut (hex : Bool) : ∀ (r : List UInt8) (n : Int) (o : Bool) (x : UInt8) (z : List UInt8), endB x = true → numL hex (r.take (numL hex r n o).1 ++ x :: z) n o = numL hex r n o
  | [], n, o, x, z, h => by
    simp only [numL, List.take_nil, List.nil_append, end_dgt h, Bool.false_eq_true, if_false]
  | c :: r, n, o, x, z, h => by
    cases hc : dgt hex c with
    | false =>
      have e : numL hex (c :: r) n o = (0, n, o) := by simp [numL, hc]
      rw [e, List.take_zero, List.nil_append]
      simp [numL, end_dgt h]
    | true =>
      have ih := numL_cut hex r (nxtN hex n (hexI c.toNat)) (o || decide (limN hex (hexI c.toNat) < n)) x z h
      have e : numL hex (c :: r) n o = ((numL hex r (nxtN hex n (hexI c.toNat)) (o || decide (limN hex (hexI c.toNat) < n))).1 + 1, (numL hex r (nxtN hex n (hexI c.toNat)) (o || decide (limN hex (hexI c.toNat) < n))).2) := by simp [numL, hc]
      rw [e, List.take_succ_cons, List.cons_append]
      simp only [numL, hc, if_true, ih]
theorem numL_tail (hex : Bool) (r : List UInt8) (n : Int) (o : Bool) (x : UInt8) (z : List UInt8) : (r.take (numL hex r n o).1 ++ x :: z).drop (numL hex r n o).1 = x :: z := by
  have h := numL_le hex r n o
  rw [List.drop_append, List.length_take, Nat.min_eq_left h, Nat.sub_self, List.drop_zero, List.drop_eq_nil_of_le (by simp; omega), List.nil_append]
theorem number_cut (r : List UInt8) (x : UInt8) (z : List UInt8) (h : endB x = true) (he : (numberL r).2.2 = 0) : numberL (r.take (numberL r).1 ++ x :: z) = numberL r := by
  obtain ⟨hex, fr, p, hfr, hx, hl, hp, hN⟩ := numberL_eq r
  have hne : ¬ (p.1 = 0 ∨ 0 < wl (r.drop (fr + p.1))) := by
    intro hc
    rw [hN, if_pos hc] at he
    exact absurd he (by decide)
  rw [if_neg hne] at hN
  have hlen : (numberL r).1 = fr + p.1 := by rw [hN]
  rw [hlen]
  have x120 : x ≠ 120 := by
    rintro rfl
    simp only [endB, decide_eq_true_eq] at h
    exact absurd h (by decide)
  obtain ⟨hex', fr', p', hfr', hx', hl', hp', hN'⟩ := numberL_eq (r.take (fr + p.1) ++ x :: z)
  have hh : hex' = hex := by
    rw [hx', hx]
    rcases Nat.lt_or_ge 1 (fr + p.1) with h2 | h2
    · rw [List.take_append_of_le_length (by simp; omega), List.take_take, Nat.min_eq_left (by omega)]
    · have h1 : fr + p.1 = 1 := by omega
      have hf0 : fr = 0 := by omega
      have hxf : hex = false := by
        cases hex with
        | false => rfl
        | true => rw [if_pos rfl] at hfr; omega
      rw [← hx, hxf, decide_eq_false_iff_not, h1]
      match r, hl with
      | c :: r, _ =>
        intro hc
        simp only [List.take_succ_cons, List.take_zero, List.cons_append, List.nil_append, List.cons.injEq, and_true] at hc
        exact x120 hc.2
      | [], hl => simp at hl; omega
  have hf : fr' = fr := by rw [hfr', hfr, hh]
  have hd : (r.take (fr + p.1) ++ x :: z).drop fr = (r.drop fr).take p.1 ++ x :: z := by
    rw [List.drop_append_of_le_length (by simp; omega), List.drop_take, show fr + p.1 - fr = p.1 by omega]
  have hpp : p' = p := by
    rw [hp', hh, hf, hd, hp]
    exact numL_cut hex (r.drop fr) 0 false x z h
  rw [hN', hN, hf, hpp, if_neg]
  rw [← List.drop_drop, hd]
  rintro (h0 | hw)
  · exact hne (Or.inl h0)
  · rw [hp] at hw
    rw [numL_tail, end_wl h] at hw
    omega

theorem qsF_cut : ∀ (n : Nat) (r : List UInt8), r.length ≤ n → ∀ (k : Nat) (z : List UInt8), qs r = some k → qs (r.take (k + 1) ++ z) = some k := by
  intro n
  induction n with
  | zero => intro r hr k z h; obtain rfl : r = [] := List.eq_nil_of_length_eq_zero (by omega); simp [qs_nil] at h
  | succ n ih =>
    intro r hr k z h
    cases r with
    | nil => simp [qs_nil] at h
    | cons c r =>
      simp only [List.length_cons] at hr
      have hlt := qs_lt _ _ (Nat.le_refl _) k h
      simp only [List.length_cons] at hlt
      rw [qs_cons] at h
      rw [List.take_succ_cons, List.cons_append, qs_cons]
      split at h
      · rename_i h34; cases h; rw [if_pos h34]
      rename_i h34
      rw [if_neg h34]
      split at h
      · rename_i h92
        rw [if_pos h92]
        simp only [Option.map_eq_some_iff] at h
        obtain ⟨j, hj, rfl⟩ := h
        cases r with
        | nil => simp [qs_nil] at hj
        | cons d r =>
          simp only [List.drop_succ_cons, List.drop_zero] at hj
          simp only [List.length_cons] at hr
          rw [List.take_succ_cons, List.cons_append, List.drop_succ_cons, List.drop_zero, ih r (by omega) j z hj]
          rfl
      · rename_i h92
        rw [if_neg h92]
        simp only [Option.map_eq_some_iff] at h
        obtain ⟨j, hj, rfl⟩ := h
        rw [ih r (by omega) j z hj]
        rfl
theorem quoted_cut (r z : List UInt8) (he : (quotedL r).1 ≠ 0) : quotedL (r.take (quotedL r).1 ++ z) = quotedL r := by
  have hr : quotedL r = quotedL r := rfl
  conv at hr => rhs; unfold quotedL
  cases hk : qs (r.drop 1) with
  | none => rw [hk] at hr; rw [hr] at he; exact absurd rfl he
  | some k =>
    rw [hk] at hr
    simp only at hr
    have hlt := qs_lt _ _ (Nat.le_refl _) k hk
    simp only [List.length_drop] at hlt
    by_cases hu : (unquoteL (r.take (k + 2))).2 = 0
    · rw [if_pos hu] at hr
      have hlen : (quotedL r).1 = k + 2 := by rw [hr]
      rw [hlen]
      have hd : (r.take (k + 2) ++ z).drop 1 = (r.drop 1).take (k + 1) ++ z := by
        rw [List.drop_append_of_le_length (by simp; omega), List.drop_take, show k + 2 - 1 = k + 1 by omega]
      have hq := qsF_cut _ (r.drop 1) (Nat.le_refl _) k z hk
      have ht : (r.take (k + 2) ++ z).take (k + 2) = r.take (k + 2) := by
        rw [List.take_append_of_le_length (by simp; omega), List.take_take, Nat.min_self]
      rw [hr]
      unfold quotedL
      rw [hd, hq]
      simp only [ht]
      rw [if_pos hu]
    · rw [if_neg hu] at hr; rw [hr] at he; exact absurd rfl he

/-- A word is one again, whatever stands behind it. -/
theorem tok_cut {r : List UInt8} {kind : Int} {len : Nat} {n : Int} {bs : Nat} {b : List UInt8} (h : tok r = .word kind len n bs b) (x : UInt8) (z : List UInt8) (hx : endB x = true) : tok (r.take len ++ x :: z) = .word kind len n bs b := by
  obtain ⟨w1, w2, w3⟩ := tok_word h
  cases r with
  | nil => simp [tok] at h
  | cons c r =>
    obtain ⟨l, rfl⟩ : ∃ l, len = l + 1 := ⟨len - 1, by omega⟩
    have hcut : (c :: r).take (l + 1) ++ x :: z = c :: (r.take l ++ x :: z) := by rw [List.take_succ_cons, List.cons_append]
    rw [tok] at h
    split at h
    · cases h
    rename_i n1
    split at h
    · cases h
    rename_i n2
    split at h
    · split at h <;> cases h
    rename_i n3
    have c47 : c ≠ 47 → ∀ y, ¬ (c :: (r.take l ++ x :: z)).take 2 = [47, y] := by
      intro hc y hy
      rw [List.take_succ_cons] at hy
      simp only [List.cons.injEq] at hy
      exact hc hy.1
    split at h
    · rename_i hL
      simp only [Tok.word.injEq] at h
      obtain ⟨rfl, h2, rfl, rfl, rfl⟩ := h
      have hc : c ≠ 47 := by rintro rfl; exact absurd hL (by decide)
      have hwl : wl (c :: (r.take l ++ x :: z)) = l + 1 := by rw [← hcut, ← h2, wl_cut _ _ _ hx]
      rw [hcut, tok, if_neg n1, if_neg (c47 hc 47), if_neg (c47 hc 42), if_pos hL, hwl]
    rename_i hL
    split at h
    · rename_i hD
      split at h
      · rename_i he
        simp only [Tok.word.injEq] at h
        obtain ⟨rfl, h2, rfl, rfl, rfl⟩ := h
        have hc : c ≠ 47 := by rintro rfl; exact absurd hD (by decide)
        have hN := number_cut (c :: r) x z hx he
        rw [h2, hcut] at hN
        rw [hcut, tok, if_neg n1, if_neg (c47 hc 47), if_neg (c47 hc 42), if_neg hL, if_pos hD, hN, if_pos he, h2]
      · cases h
    rename_i hD
    split at h
    · rename_i h34
      split at h
      · cases h
      · rename_i he
        simp only [Tok.word.injEq] at h
        obtain ⟨rfl, h2, rfl, rfl, rfl⟩ := h
        have hc : c ≠ 47 := by rintro rfl; exact absurd h34 (by decide)
        have hN := quoted_cut (c :: r) (x :: z) he
        rw [h2, hcut] at hN
        rw [hcut, tok, if_neg n1, if_neg (c47 hc 47), if_neg (c47 hc 42), if_neg hL, if_neg hD, if_pos h34, hN, if_neg he, h2]
    rename_i h34
    split at h
    · rename_i hS
      simp only [Tok.word.injEq] at h
      obtain ⟨rfl, h2, rfl, rfl, rfl⟩ := h
      have hc : c ≠ 47 := by rintro rfl; exact absurd hS (by decide)
      rw [hcut, tok, if_neg n1, if_neg (c47 hc 47), if_neg (c47 hc 42), if_neg hL, if_neg hD, if_neg h34, if_pos hS, ← h2]
    · cases h

/-! ### What is put behind words -/
def sepL (k : Nat) : List UInt8 := match k with
  | 0 => [32]
  | 1 => [10]
  | 2 => [47, 42, 32, 42, 32, 47, 32, 34, 32, 42, 47]
  | _ => [47, 47, 32, 34, 32, 47, 42, 10]
theorem sep_head (k : Nat) : ∃ x z, sepL k = x :: z ∧ endB x = true := by
  match k with
  | 0 => exact ⟨32, [], rfl, by decide⟩
  | 1 => exact ⟨10, [], rfl, by decide⟩
  | 2 => exact ⟨47, _, rfl, by decide⟩
  | k + 3 => exact ⟨47, _, rfl, by decide⟩
theorem sep_skip (k : Nat) (z : List UInt8) (f : Nat) (p : Nat × Nat) : ∃ p', wordsF (f + 2) (sepL k ++ z) p = wordsF (f + 1) z p' ∨ wordsF (f + 2) (sepL k ++ z) p = wordsF f z p' := by
  match k with
  | 0 =>
    refine ⟨adv [32] p, Or.inl ?_⟩
    have : tok (sepL 0 ++ z) = .blank 1 := by simp [sepL, tok]
    simp only [wordsF, this]
    rfl
  | 1 =>
    refine ⟨adv [10] p, Or.inl ?_⟩
    have : tok (sepL 1 ++ z) = .blank 1 := by simp [sepL, tok]
    simp only [wordsF, this]
    rfl
  | 2 =>
    refine ⟨adv (sepL 2) p, Or.inl ?_⟩
    have : tok (sepL 2 ++ z) = .blank 11 := by simp [sepL, tok, ce]
    simp only [wordsF, this]
    rfl
  | k + 3 =>
    refine ⟨adv [10] (adv [47, 47, 32, 34, 32, 47, 42] p), Or.inr ?_⟩
    have h1 : tok (sepL (k + 3) ++ z) = .blank 7 := by simp [sepL, tok, lnE]
    have h2 : tok ((sepL (k + 3) ++ z).drop 7) = .blank 1 := by simp [sepL, tok]
    rw [wordsF, h1]
    simp only []
    rw [wordsF, h2]
    rfl

/-- The words one behind the other, each with something behind it. -/
def joinL (g : Nat → Nat) : Nat → List Wd → List UInt8
  | _, [] => []
  | i, w :: ws => w.s ++ (sepL (g i) ++ joinL g (i + 1) ws)
def likeW (a b : Wd) : Prop := a.kind = b.kind ∧ a.s = b.s ∧ a.n = b.n ∧ a.bs = b.bs ∧ a.b = b.b
theorem again (g : Nat → Nat) : ∀ (f : Nat) (r : List UInt8) (p : Nat × Nat) (ws : List Wd), wordsF f r p = .inr ws → ∀ (i F : Nat) (p' : Nat × Nat), (joinL g i ws).length < F →
    ∃ ws' : List Wd, wordsF F (joinL g i ws) p' = .inr ws' ∧ ws'.length = ws.length ∧ ∀ (k : Nat) w, ws[k]? = some w → ∃ w' : Wd, ws'[k]? = some w' ∧ likeW w' w := by
  intro f
  induction f with
  | zero => intro r p ws h; simp [wordsF] at h
  | succ f ih =>
    intro r p ws h i F p' hF
    simp only [wordsF] at h
    cases hk : tok r with
    | fault e => rw [hk] at h; cases h
    | blank k => rw [hk] at h; exact ih _ _ _ h i F p' hF
    | done =>
      rw [hk] at h
      cases h
      have hj : joinL g i [⟨5, [], 0, 0, [], p.1, p.2⟩] = sepL (g i) ++ [] := by simp [joinL]
      rw [hj] at hF ⊢
      have hpos : 1 ≤ (sepL (g i)).length := by
        obtain ⟨x, z, hs, _⟩ := sep_head (g i)
        rw [hs]; simp
      rw [List.append_nil] at hF
      rw [wordsF_same F ((sepL (g i)).length + 2) _ _ (by simpa using hF) (by simp)]
      obtain ⟨q, hq⟩ := sep_skip (g i) [] (sepL (g i)).length p'
      obtain ⟨l, hl⟩ : ∃ l, (sepL (g i)).length = l + 1 := ⟨(sepL (g i)).length - 1, by omega⟩
      have fin : ∀ F', wordsF (F' + 1) ([] : List UInt8) q = .inr [⟨5, [], 0, 0, [], q.1, q.2⟩] := fun F' => rfl
      refine ⟨[⟨5, [], 0, 0, [], q.1, q.2⟩], ?_, rfl, ?_⟩
      · rcases hq with hq | hq
        · rw [hq, fin]
        · rw [hq, hl, fin]
      · intro k w hw
        match k with
        | 0 => simp only [List.getElem?_cons_zero, Option.some.injEq] at hw; subst hw; exact ⟨_, rfl, rfl, rfl, rfl, rfl, rfl⟩
        | k + 1 => simp at hw
    | word kind len n bs b =>
      rw [hk] at h
      obtain ⟨w1, w2, w3⟩ := tok_word hk
      simp only at h
      cases hw : wordsF f (r.drop len) (adv (r.take len) p) with
      | inl e => rw [hw] at h; cases h
      | inr ws1 =>
        rw [hw] at h
        cases h
        obtain ⟨x, z, hs, hx⟩ := sep_head (g i)
        have hcut := tok_cut hk x (z ++ joinL g (i + 1) ws1) hx
        have hj : joinL g i (⟨kind, r.take len, n, bs, b, p.1, p.2⟩ :: ws1) = r.take len ++ (sepL (g i) ++ joinL g (i + 1) ws1) := rfl
        have hj2 : r.take len ++ (sepL (g i) ++ joinL g (i + 1) ws1) = r.take len ++ x :: (z ++ joinL g (i + 1) ws1) := by rw [hs]; simp
        have hlen : (r.take len).length = len := by simp; omega
        rw [hj] at hF ⊢
        simp only [List.length_append] at hF
        have hpos : 1 ≤ (sepL (g i)).length := by rw [hs]; simp
        obtain ⟨F', rfl⟩ : ∃ F', F = F' + 1 := ⟨F - 1, by omega⟩
        have htk : (r.take len ++ (sepL (g i) ++ joinL g (i + 1) ws1)).take len = r.take len := by rw [List.take_append_of_le_length (by omega), List.take_take, Nat.min_self]
        have hdr : (r.take len ++ (sepL (g i) ++ joinL g (i + 1) ws1)).drop len = sepL (g i) ++ joinL g (i + 1) ws1 := by
          rw [List.drop_append, hlen, Nat.sub_self, List.drop_zero, List.drop_eq_nil_of_le (by omega), List.nil_append]
        have htok : tok (r.take len ++ (sepL (g i) ++ joinL g (i + 1) ws1)) = .word kind len n bs b := by rw [hj2]; exact hcut
        rw [wordsF, htok]
        simp only [htk, hdr]
        rw [wordsF_same F' ((sepL (g i) ++ joinL g (i + 1) ws1).length + 2) _ _ (by simp; omega) (by omega)]
        obtain ⟨q, hq⟩ := sep_skip (g i) (joinL g (i + 1) ws1) (sepL (g i) ++ joinL g (i + 1) ws1).length (adv (r.take len) p')
        have key : ∃ ws' : List Wd, wordsF ((sepL (g i) ++ joinL g (i + 1) ws1).length + 2) (sepL (g i) ++ joinL g (i + 1) ws1) (adv (r.take len) p') = .inr ws' ∧ ws'.length = ws1.length ∧ ∀ (k : Nat) w, ws1[k]? = some w → ∃ w' : Wd, ws'[k]? = some w' ∧ likeW w' w := by
          rcases hq with hq | hq
          · rw [hq]; exact ih _ _ _ hw (i + 1) _ q (by simp; omega)
          · rw [hq]; exact ih _ _ _ hw (i + 1) _ q (by simp; omega)
        obtain ⟨ws', hx', hl', hw'⟩ := key
        rw [hx']
        refine ⟨⟨kind, r.take len, n, bs, b, p'.1, p'.2⟩ :: ws', rfl, by simp [hl'], ?_⟩
        intro k w hkw
        match k with
        | 0 => simp only [List.getElem?_cons_zero, Option.some.injEq] at hkw; subst hkw; exact ⟨_, rfl, rfl, rfl, rfl, rfl, rfl⟩
        | k + 1 => simp only [List.getElem?_cons_succ] at hkw ⊢; exact hw' k w hkw
end Go.Proofs.Ytladdhfkmnhmfaa
