/-
  The words of a text: the plain model.
-/
import Derived.Test.YtladdhfkmnhmfaaRnum
import Derived.Test.YtladdhfkmnhmfaaQuoted
set_option linter.unusedVariables false
set_option linter.unusedSimpArgs false
set_option maxRecDepth 100000
set_option maxHeartbeats 8000000
namespace Go.Proofs.Ytladdhfkmnhmfaa
open Go.Vi
variable {m : Int}

/-- A word, or what stands instead of one. -/
inductive Tok where
  | done
  | fault (e : Int)
  | blank (k : Nat)
  | word (kind : Int) (len : Nat) (n : Int) (bs : Nat) (b : List UInt8)

/-- How many bytes stand ahead of the line's end. -/
def lnE : List UInt8 → Nat
  | [] => 0
  | c :: r => if c.toNat = 10 then 0 else lnE r + 1
/-- How many bytes stand ahead of a comment's end. -/
def ce : List UInt8 → Option Nat
  | [] => none
  | [_] => none
  | x :: y :: r => if x.toNat = 42 ∧ y.toNat = 47 then some 0 else (ce (y :: r)).map (· + 1)
def tok : List UInt8 → Tok
  | [] => .done
  | c :: r =>
    if c.toNat = 10 ∨ c.toNat = 32 ∨ c.toNat = 9 ∨ c.toNat = 13 then .blank 1
    else if (c :: r).take 2 = [47, 47] then .blank (lnE (c :: r))
    else if (c :: r).take 2 = [47, 42] then (match ce ((c :: r).drop 2) with
      | none => .fault 11
      | some k => .blank (k + 4))
    else if isLetter c.toNat then .word 1 (wl (c :: r)) 0 0 []
    else if isDigit c.toNat then (if (numberL (c :: r)).2.2 = 0 then .word 2 (numberL (c :: r)).1 (numberL (c :: r)).2.1 0 [] else .fault (numberL (c :: r)).2.2)
    else if c.toNat = 34 then (if (quotedL (c :: r)).1 = 0 then .fault 11 else .word 3 (quotedL (c :: r)).1 0 1 (quotedL (c :: r)).2)
    else if isSign c.toNat then .word 4 1 0 0 []
    else .fault 11

theorem lnE_le : ∀ r : List UInt8, lnE r ≤ r.length
  | [] => by simp [lnE]
  | c :: r => by
    have := lnE_le r
    simp only [lnE, List.length_cons]
    split <;> omega
theorem lnE_plain : ∀ (r : List UInt8), ∀ c ∈ r.take (lnE r), c.toNat ≠ 10
  | [] => by simp
  | x :: r => by
    intro c hc
    simp only [lnE] at hc
    split at hc
    · simp at hc
    · rename_i hx
      rw [List.take_succ_cons, List.mem_cons] at hc
      rcases hc with rfl | hc
      · exact hx
      · exact lnE_plain r c hc
theorem ce_lt : ∀ (r : List UInt8) (k : Nat), ce r = some k → k + 2 ≤ r.length
  | [], k, h => by simp [ce] at h
  | [_], k, h => by simp [ce] at h
  | x :: y :: r, k, h => by
    simp only [ce] at h
    split at h
    · cases h; simp
    · simp only [Option.map_eq_some_iff] at h
      obtain ⟨j, hj, rfl⟩ := h
      have := ce_lt (y :: r) j hj
      simp at this ⊢; omega

theorem numberL_eq (s : List UInt8) : ∃ (hex : Bool) (fr : Nat) (p : Nat × Int × Bool), fr = (if hex then 2 else 0) ∧ hex = decide (s.take 2 = [48, 120]) ∧ fr + p.1 ≤ s.length ∧ p = numL hex (s.drop fr) 0 false ∧
    numberL s = if p.1 = 0 ∨ 0 < wl (s.drop (fr + p.1)) then (0, 0, 11) else (fr + p.1, p.2.1, overI p.2.2) := by
  refine ⟨decide (s.take 2 = [48, 120]), _, _, rfl, rfl, ?_, rfl, rfl⟩
  have h1 := numL_le (decide (s.take 2 = [48, 120])) (s.drop (if decide (s.take 2 = [48, 120]) = true then 2 else 0)) 0 false
  simp only [List.length_drop] at h1
  have h2 : (if decide (s.take 2 = [48, 120]) = true then 2 else 0) ≤ s.length := by
    split
    · rename_i h
      have := congrArg List.length (of_decide_eq_true h)
      simp at this; omega
    · omega
  omega
theorem numberL_le (s : List UInt8) : (numberL s).1 ≤ s.length := by
  obtain ⟨hex, fr, p, -, -, hl, -, he⟩ := numberL_eq s
  rw [he]
  split
  · simp
  · exact hl
theorem numberL_pos (s : List UInt8) (h : (numberL s).2.2 = 0) : 1 ≤ (numberL s).1 := by
  obtain ⟨hex, fr, p, -, -, hl, -, he⟩ := numberL_eq s
  rw [he] at h ⊢
  split at h
  · exact absurd h (by decide)
  · rename_i h2
    rw [if_neg h2]
    simp only; omega
theorem quotedL_le (s : List UInt8) : (quotedL s).1 ≤ s.length ∧ (quotedL s).2.length ≤ s.length := by
  unfold quotedL
  split
  · simp
  · rename_i k hk
    have := qs_lt _ _ (Nat.le_refl _) k hk
    simp only [List.length_drop] at this
    have h2 := unqF_length (s.take (k + 2)) (unquoteL (s.take (k + 2))).1 (unquoteL (s.take (k + 2))).2 rfl
    rw [List.length_take] at h2
    generalize unquoteL (s.take (k + 2)) = p at *
    split
    · simp only; omega
    · simp

theorem uqStep_plain {s : List UInt8} {b : UInt8} {k : Nat} (h : uqStep s = some (b, k)) : ∀ c ∈ s.take k, c.toNat ≠ 10 := by
  match s with
  | [] => simp [uqStep] at h
  | c :: r =>
    simp only [uqStep] at h
    split at h
    · cases h
    rename_i h1
    split at h
    · simp only [Option.some.injEq, Prod.mk.injEq] at h
      obtain ⟨-, rfl⟩ := h
      intro d hd
      simp only [List.take_succ_cons, List.take_zero, List.mem_cons, List.mem_nil_iff, or_false] at hd
      subst hd; omega
    rename_i h92
    have hc : c.toNat ≠ 10 := by omega
    match r with
    | [] => cases h
    | d :: r =>
      simp only at h
      have two : d.toNat ≠ 10 → k = 2 → ∀ x ∈ (c :: d :: r).take k, x.toNat ≠ 10 := by
        rintro hd rfl x hx
        simp only [List.take_succ_cons, List.take_zero, List.mem_cons, List.mem_nil_iff, or_false] at hx
        rcases hx with rfl | rfl
        · exact hc
        · exact hd
      split at h
      · simp only [Option.some.injEq, Prod.mk.injEq] at h; exact two (by omega) h.2.symm
      split at h
      · simp only [Option.some.injEq, Prod.mk.injEq] at h; exact two (by omega) h.2.symm
      split at h
      · simp only [Option.some.injEq, Prod.mk.injEq] at h; exact two (by omega) h.2.symm
      split at h
      · simp only [Option.some.injEq, Prod.mk.injEq] at h; exact two (by omega) h.2.symm
      split at h
      · rename_i h120
        match r with
        | [] => cases h
        | [_] => cases h
        | x :: y :: r =>
          simp only at h
          split at h
          · cases h
          · rename_i hxy
            simp only [Option.some.injEq, Prod.mk.injEq] at h
            obtain ⟨-, rfl⟩ := h
            have nx : ∀ z : UInt8, 0 ≤ hexI z.toNat → z.toNat ≠ 10 := by
              intro z hz h10
              rw [h10] at hz
              exact absurd hz (by decide)
            intro z hz
            simp only [List.take_succ_cons, List.take_zero, List.mem_cons, List.mem_nil_iff, or_false] at hz
            rcases hz with rfl | rfl | rfl | rfl
            · exact hc
            · omega
            · exact nx _ (by omega)
            · exact nx _ (by omega)
      · cases h

/-! ### The library's two -/
theorem ib_spec (s : List UInt8) (c : UInt8) : C (M m) 14 [.d (.str s), .d (.int .u8 (c.toNat : Int))] = some (.d (.int .i64 (Go.Lib.indexByte s c))) := by
  rw [C_prim (p := fun
    | [.str s, .int .u8 c] => some (.d (.int .i64 (Go.Lib.indexByte s c.toNat.toUInt8)))
    | _ => none) rfl]
  show some (V.d (.int .i64 (Go.Lib.indexByte s ((c.toNat : Int).toNat.toUInt8)))) = _
  rw [Int.toNat_natCast, show c.toNat.toUInt8 = c by simp]
theorem ix_spec (s t : List UInt8) (h : s.length < 4294967281) : C (M m) 20 [.d (.str s), .d (.str t)] = some (.d (.int .i64 (Go.Lib.index s t))) := by
  rw [C_prim (p := fun
    | [.str s, .str t] => if s.length < 4294967281 then some (.d (.int .i64 (Go.Lib.index s t))) else none
    | _ => none) rfl]
  show (if s.length < 4294967281 then some (V.d (.int .i64 (Go.Lib.index s t))) else none) = _
  rw [if_pos h]
theorem ln_index : ∀ r : List UInt8, (if Go.Lib.indexByte r 10 < 0 then lnE r = r.length else Go.Lib.indexByte r 10 = lnE r)
  | [] => by simp [Go.Lib.indexByte, lnE]
  | c :: r => by
    have := ln_index r
    have hge := Go.Lib.indexByte_ge r 10
    simp only [Go.Lib.indexByte, lnE, List.length_cons]
    by_cases hc : c = 10
    · subst hc; simp
    · have h1 : (c == 10) = false := by simpa using hc
      have h2 : ¬ c.toNat = 10 := by
        intro h; exact hc (UInt8.toNat_inj.1 h)
      simp only [h1, h2, Bool.false_eq_true, if_false, beq_iff_eq]
      split at this
      · have e : Go.Lib.indexByte r 10 = -1 := by omega
        rw [if_pos e]; simp [this]
      · rw [if_neg (by omega), if_neg (by omega)]; omega
theorem ce_index : ∀ r : List UInt8, (match ce r with | none => Go.Lib.index r [42, 47] = -1 | some k => Go.Lib.index r [42, 47] = k)
  | [] => rfl
  | [x] => by
    simp [ce, Go.Lib.index, List.isPrefixOf]
  | x :: y :: r => by
    have := ce_index (y :: r)
    simp only [ce]
    rw [Go.Lib.index]
    have hp : ([42, 47] : List UInt8).isPrefixOf (x :: y :: r) = decide (x.toNat = 42 ∧ y.toNat = 47) := by
      have e1 : ((42 : UInt8) == x) = decide (x.toNat = 42) := by
        rw [Bool.eq_iff_iff, beq_iff_eq, decide_eq_true_eq]
        constructor
        · rintro rfl; rfl
        · intro h; exact (UInt8.toNat_inj.1 h).symm
      have e2 : ((47 : UInt8) == y) = decide (y.toNat = 47) := by
        rw [Bool.eq_iff_iff, beq_iff_eq, decide_eq_true_eq]
        constructor
        · rintro rfl; rfl
        · intro h; exact (UInt8.toNat_inj.1 h).symm
      simp [List.isPrefixOf, e1, e2]
    rw [hp]
    by_cases h : x.toNat = 42 ∧ y.toNat = 47
    · simp [h]
    · have hge := Go.Lib.index_ge (y :: r) [42, 47]
      simp only [h, decide_false, Bool.false_eq_true, if_false, beq_iff_eq]
      cases hc : ce (y :: r) with
      | none => rw [hc] at this; simp [this]
      | some k =>
        rw [hc] at this
        simp only at this
        simp only [Option.map_some]
        rw [this, if_neg (by omega)]; omega

/-! ### Places -/
def adv (bs : List UInt8) (p : Nat × Nat) : Nat × Nat := bs.foldl (fun p c => if c.toNat = 10 then (p.1 + 1, 1) else (p.1, p.2 + 1)) p
theorem adv_append (a b : List UInt8) (p : Nat × Nat) : adv (a ++ b) p = adv b (adv a p) := List.foldl_append ..
theorem adv_plain : ∀ (a : List UInt8) (p : Nat × Nat), (∀ c ∈ a, c.toNat ≠ 10) → adv a p = (p.1, p.2 + a.length)
  | [], p, _ => rfl
  | c :: a, p, h => by
    have h1 := h c (by simp)
    have := adv_plain a (p.1, p.2 + 1) fun x hx => h x (by simp [hx])
    simp only [adv, List.foldl_cons, h1, if_false] at this ⊢
    rw [this]
    simp; omega

structure Wd where
  kind : Int
  s : List UInt8
  n : Int
  bs : Nat
  b : List UInt8
  line : Nat
  col : Nat
def wdD (w : Wd) : D := .agg [.int .i64 w.kind, .str w.s, .int .u64 w.n, .slice w.bs (bytesD w.b), .int .i64 w.line, .int .i64 w.col]
/-- The words of what is left of a text, or the first fault. -/
def wordsF : Nat → List UInt8 → Nat × Nat → (Int × Nat × Nat) ⊕ List Wd
  | 0, _, p => .inl (0, p)
  | f + 1, r, p => match tok r with
    | .done => .inr [⟨5, [], 0, 0, [], p.1, p.2⟩]
    | .fault e => .inl (e, p)
    | .blank k => wordsF f (r.drop k) (adv (r.take k) p)
    | .word kind len n bs b => match wordsF f (r.drop len) (adv (r.take len) p) with
      | .inl e => .inl e
      | .inr ws => .inr (⟨kind, r.take len, n, bs, b, p.1, p.2⟩ :: ws)
end Go.Proofs.Ytladdhfkmnhmfaa
