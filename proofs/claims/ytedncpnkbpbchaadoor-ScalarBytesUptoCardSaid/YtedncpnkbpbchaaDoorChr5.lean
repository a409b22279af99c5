/-
  unicode/utf8.Valid over data: characters of more bytes than one; what it answers.
-/
import Derived.Test.YtedncpnkbpbchaaDoorChr4
set_option linter.unusedVariables false
set_option linter.unusedSimpArgs false
set_option maxRecDepth 100000
set_option maxHeartbeats 8000000
namespace Go.Proofs.YtedncpnkbpbchaaDoor.U
open Go.Vi

def inB (lo hi : Nat) (d : UInt8) : Bool := decide (lo ≤ d.toNat ∧ d.toNat ≤ hi)
def loB (n : Nat) : Nat := if n = 224 then 160 else if n = 240 then 144 else 128
def hiB (n : Nat) : Nat := if n = 237 then 159 else if n = 244 then 143 else 191
/-- How many bytes the first character has, by tables. -/
def chrT : List UInt8 → Option Nat
  | [] => none
  | c :: r =>
    if c.toNat < 128 then some 1
    else if c.toNat < 194 then none
    else if c.toNat < 224 then
      match r with
      | d :: _ => if inB (loB c.toNat) (hiB c.toNat) d then some 2 else none
      | _ => none
    else if c.toNat < 240 then
      match r with
      | d :: e :: _ => if inB (loB c.toNat) (hiB c.toNat) d && conB e then some 3 else none
      | _ => none
    else if c.toNat < 245 then
      match r with
      | d :: e :: f :: _ => if inB (loB c.toNat) (hiB c.toNat) d && conB e && conB f then some 4 else none
      | _ => none
    else none

theorem ite_some {p : Prop} [Decidable p] {b : Bool} {k : Nat} (h : p ↔ b = true) : (if p then some k else none) = if b then some k else (none : Option Nat) := by
  by_cases hp : p
  · rw [if_pos hp, h.1 hp]; rfl
  · have : b = false := by cases b with | true => exact absurd (h.2 rfl) hp | false => rfl
    rw [if_neg hp, this]; rfl

theorem loB_or (n : Nat) : (n = 224 ∧ loB n = 160) ∨ (n = 240 ∧ loB n = 144) ∨ (n ≠ 224 ∧ n ≠ 240 ∧ loB n = 128) := by
  simp only [loB]; split
  · simp [*]
  · split <;> simp [*]
theorem hiB_or (n : Nat) : (n = 237 ∧ hiB n = 159) ∨ (n = 244 ∧ hiB n = 143) ∨ (n ≠ 237 ∧ n ≠ 244 ∧ hiB n = 191) := by
  simp only [hiB]; split
  · simp [*]
  · split <;> simp [*]
theorem inB_T {lo hi : Nat} {d : UInt8} (h : lo ≤ d.toNat ∧ d.toNat ≤ hi) : inB lo hi d = true := by simpa [inB] using h
theorem inB_F {lo hi : Nat} {d : UInt8} (h : ¬ (lo ≤ d.toNat ∧ d.toNat ≤ hi)) : inB lo hi d = false := by simpa [inB] using h

theorem t2 (c d : UInt8) (r : List UInt8) (h1 : 192 ≤ c.toNat) (h2 : c.toNat < 224) : tailV 2 (c.toNat - 192) 128 (d :: r) = if c.toNat < 194 then none else if inB (loB c.toNat) (hiB c.toNat) d then some 2 else none := by
  have l1 := d.toNat_lt
  have o1 := loB_or c.toNat
  have o2 := hiB_or c.toNat
  generalize loB c.toNat = lo at *
  generalize hiB c.toNat = hi at *
  simp only [tailV, List.length_cons, show ¬ r.length + 1 + 1 < 2 by omega, if_false, List.take_succ_cons, List.take_zero, cont, Nat.add_one_sub_one, Nat.reduceSub]
  cases hd : conB d with
  | true =>
    simp only [if_true]
    simp only [conB, decide_eq_true_eq] at hd
    by_cases h3 : c.toNat < 194
    · have : okV 128 (((c.toNat : Int) - 192) * 64 + d.toNat - 128) = false := by simp only [okV, decide_eq_false_iff_not]; omega
      rw [this]; simp [h3]
    · have : okV 128 (((c.toNat : Int) - 192) * 64 + d.toNat - 128) = true := by simp only [okV, decide_eq_true_eq]; omega
      rw [this, inB_T (by omega)]; simp [h3]
  | false =>
    simp only [conB, decide_eq_false_iff_not] at hd
    rw [inB_F (by omega)]; simp

theorem t3 (c d e : UInt8) (r : List UInt8) (h1 : 224 ≤ c.toNat) (h2 : c.toNat < 240) : tailV 3 (c.toNat - 224) 2048 (d :: e :: r) = if inB (loB c.toNat) (hiB c.toNat) d && conB e then some 3 else none := by
  have l1 := d.toNat_lt
  have l2 := e.toNat_lt
  have o1 := loB_or c.toNat
  have o2 := hiB_or c.toNat
  generalize loB c.toNat = lo at *
  generalize hiB c.toNat = hi at *
  simp only [tailV, List.length_cons, show ¬ r.length + 1 + 1 + 1 < 3 by omega, if_false, List.take_succ_cons, List.take_zero, cont, Nat.reduceSub]
  cases he : conB e with
  | false => cases conB d <;> simp
  | true =>
    simp only [if_true, Bool.and_true]
    simp only [conB, decide_eq_true_eq] at he
    cases hd : conB d with
    | true =>
      simp only [if_true]
      simp only [conB, decide_eq_true_eq] at hd
      refine ite_some ?_
      simp only [okV, inB, decide_eq_true_eq]
      omega
    | false =>
      simp only [conB, decide_eq_false_iff_not] at hd
      rw [inB_F (by omega)]; simp

theorem t4 (c d e f : UInt8) (r : List UInt8) (h1 : 240 ≤ c.toNat) (h2 : c.toNat < 248) : tailV 4 (c.toNat - 240) 65536 (d :: e :: f :: r) = if c.toNat < 245 then (if inB (loB c.toNat) (hiB c.toNat) d && conB e && conB f then some 4 else none) else none := by
  have l1 := d.toNat_lt
  have l2 := e.toNat_lt
  have l3 := f.toNat_lt
  have o1 := loB_or c.toNat
  have o2 := hiB_or c.toNat
  generalize loB c.toNat = lo at *
  generalize hiB c.toNat = hi at *
  simp only [tailV, List.length_cons, show ¬ r.length + 1 + 1 + 1 + 1 < 4 by omega, if_false, List.take_succ_cons, List.take_zero, cont, Nat.reduceSub]
  cases hf : conB f with
  | false => cases conB d <;> cases conB e <;> simp
  | true =>
    cases he : conB e with
    | false => cases conB d <;> simp
    | true =>
      simp only [if_true, Bool.and_true]
      simp only [conB, decide_eq_true_eq] at he hf
      cases hd : conB d with
      | true =>
        simp only [if_true]
        simp only [conB, decide_eq_true_eq] at hd
        by_cases h3 : c.toNat < 245
        · simp only [h3, if_true]
          refine ite_some ?_
          simp only [okV, inB, decide_eq_true_eq]
          omega
        · have : okV 65536 (((((c.toNat : Int) - 240) * 64 + d.toNat - 128) * 64 + e.toNat - 128) * 64 + f.toNat - 128) = false := by simp only [okV, decide_eq_false_iff_not]; omega
          rw [this]; simp [h3]
      | false =>
        simp only [conB, decide_eq_false_iff_not] at hd
        rw [inB_F (by omega)]; simp

theorem tailV_short {size : Nat} {v low : Int} {r : List UInt8} (h : r.length + 1 < size) : tailV size v low r = none := by simp [tailV, h]

theorem chr_eq : ∀ l : List UInt8, chr l = chrT l
  | [] => rfl
  | c :: r => by
    simp only [chr, chrT]
    by_cases h128 : c.toNat < 128
    · simp only [h128, if_true]
    simp only [h128, if_false]
    by_cases h192 : c.toNat < 192
    · simp only [h192, show c.toNat < 194 by omega, if_true]
    simp only [h192, if_false]
    by_cases h224 : c.toNat < 224
    · simp only [h224, if_true]
      cases r with
      | nil => rw [tailV_short (by simp)]; simp
      | cons d r => rw [t2 c d r (by omega) h224]
    simp only [h224, show ¬ c.toNat < 194 by omega, if_false]
    by_cases h240 : c.toNat < 240
    · simp only [h240, if_true]
      match r with
      | [] => rw [tailV_short (by simp)]
      | [_] => rw [tailV_short (by simp)]
      | d :: e :: r => simp only [t3 c d e r (by omega) h240]
    simp only [h240, if_false]
    by_cases h248 : c.toNat < 248
    · simp only [h248, if_true]
      match r with
      | [] => rw [tailV_short (by simp)]; simp
      | [_] => rw [tailV_short (by simp)]; simp
      | [_, _] => rw [tailV_short (by simp)]; simp
      | d :: e :: f :: r => simp only [t4 c d e f r (by omega) h248]
    · simp only [h248, show ¬ c.toNat < 245 by omega, if_false]
end Go.Proofs.YtedncpnkbpbchaaDoor.U
