/-
  What is put is read back, and what is told is parsed back: plain laws, no program in sight.
-/
import Derived.Test.YtedncpnkbpbchaaGreatDoorBytes
import Derived.Test.YtedncpnkbpbchaaGreatDoorQuo
import Derived.Test.YtedncpnkbpbchaaGreatDoorName
import Derived.Lib.ParseIntB
set_option linter.unusedVariables false
set_option linter.unusedSimpArgs false
set_option maxRecDepth 100000
namespace Go.Proofs.YtedncpnkbpbchaaGreatDoor
open Go.Vi

/-! ### Digits by base 128 -/
def vbF (f n : Nat) : List UInt8 := (vpre f n).1 ++ [UInt8.ofNat (vpre f n).2]
theorem vbF_zero (n : Nat) : vbF 0 n = [UInt8.ofNat n] := rfl
theorem vbF_small (f n : Nat) (h : n < 128) : vbF f n = [UInt8.ofNat n] := by
  cases f with
  | zero => rfl
  | succ f => simp [vbF, vpre, h]
theorem vbF_big (f n : Nat) (h : ¬ n < 128) : vbF (f + 1) n = UInt8.ofNat (n % 128 + 128) :: vbF f (n / 128) := by simp [vbF, vpre, h]
theorem toNat_of (n : Nat) (h : n < 256) : (UInt8.ofNat n).toNat = n := by simp [UInt8.toNat_ofNat']; omega

theorem gvF_vb (b : List UInt8) (a : Nat) (rest : List UInt8) : ∀ (f k n acc : Nat), k + f = 9 → b.drop (a + k) = vbF f n ++ rest → acc < 2 ^ (7 * k) → n * 2 ^ (7 * k) + acc < 18446744073709551616 →
    gvF b a (f + 1) k acc = (acc + n * 2 ^ (7 * k), a + k + (vbF f n).length, 0) := by
  have small : ∀ (f k n acc : Nat), k + f = 9 → b.drop (a + k) = vbF f n ++ rest → acc < 2 ^ (7 * k) → n * 2 ^ (7 * k) + acc < 18446744073709551616 → n < 128 →
      gvF b a (f + 1) k acc = (acc + n * 2 ^ (7 * k), a + k + (vbF f n).length, 0) := by
    intro f k n acc hk hd ha hn h
    rw [vbF_small f n h] at hd ⊢
    have hg : b[a + k]? = some (UInt8.ofNat n) := by
      have := congrArg (·[0]?) hd
      simpa using this
    have ht : (UInt8.ofNat n).toNat = n := toNat_of n (by omega)
    have hc : ¬ (k = 9 ∧ 1 < n) := by
      rintro ⟨rfl, h1⟩
      have : 2 * 2 ^ (7 * 9) ≤ n * 2 ^ (7 * 9) := Nat.mul_le_mul_right _ h1
      omega
    simp only [gvF, hg, ht]
    rw [if_neg hc, if_pos h, Nat.mod_eq_of_lt h, or_add ha]
    rfl
  intro f
  induction f with
  | zero =>
    intro k n acc hk hd ha hn
    refine small 0 k n acc hk hd ha hn ?_
    obtain rfl : k = 9 := by omega
    omega
  | succ f ih =>
    intro k n acc hk hd ha hn
    by_cases h : n < 128
    · exact small (f + 1) k n acc hk hd ha hn h
    · rw [vbF_big f n h] at hd ⊢
      have hg : b[a + k]? = some (UInt8.ofNat (n % 128 + 128)) := by
        have := congrArg (·[0]?) hd
        simpa using this
      have ht : (UInt8.ofNat (n % 128 + 128)).toNat = n % 128 + 128 := toNat_of _ (by omega)
      have hd1 : b.drop (a + (k + 1)) = vbF f (n / 128) ++ rest := by
        have := congrArg (List.drop 1) hd
        rw [List.drop_drop] at this
        simpa [Nat.add_assoc] using this
      have hp : 2 ^ (7 * (k + 1)) = 128 * 2 ^ (7 * k) := by rw [show 7 * (k + 1) = 7 * k + 7 by omega, Nat.pow_add, Nat.mul_comm]
      have hsum : n % 128 * 2 ^ (7 * k) + n / 128 * 2 ^ (7 * (k + 1)) = n * 2 ^ (7 * k) := by
        rw [hp, ← Nat.mul_assoc, ← Nat.add_mul]
        congr 1
        omega
      have hr : n % 128 * 2 ^ (7 * k) ≤ 127 * 2 ^ (7 * k) := Nat.mul_le_mul_right _ (by omega)
      have e := ih (k + 1) (n / 128) (acc + n % 128 * 2 ^ (7 * k)) (by omega) hd1 (by rw [hp]; omega) (by omega)
      conv => lhs; rw [gvF]
      simp only [hg, ht]
      rw [if_neg (by omega), if_neg (by omega), show (n % 128 + 128) % 128 = n % 128 by omega, or_add ha, e]
      simp only [List.length_cons, Prod.mk.injEq, and_true]
      omega
theorem gv_back (n : Nat) (hn : n < 18446744073709551616) (r : List UInt8) : gvF (vb n ++ r) 0 10 0 0 = (n, (vb n).length, 0) := by
  have := gvF_vb (vb n ++ r) 0 r 9 0 n 0 (by omega) (by simp [vb, vbF]) (by simp) (by simpa using hn)
  rw [this]
  simp [vb, vbF]

/-! ### Words -/
theorem le_back (s n : Nat) (r : List UInt8) : ∀ i, i ≤ s → leF (wordL s n ++ r) 0 i = n % 2 ^ (8 * i)
  | 0, _ => by simp [leF, Nat.mod_one]
  | i + 1, h => by
    have e : (wordL s n ++ r).getD (0 + i) 0 = byteAt n i := by
      rw [Nat.zero_add, List.getD, List.getElem?_append_left (by rw [wordL_len]; omega)]
      simp [wordL, show i < s by omega]
    rw [leF, le_back s n r i (by omega), e, byteAt, toNat_of _ (by omega), show 8 * (i + 1) = 8 * i + 8 by omega, Nat.pow_add, Nat.mod_mul, Nat.mul_comm (2 ^ (8 * i))]
theorem rd_back (s n : Nat) (r : List UInt8) : rdP (wordL s n ++ r) 0 s = (n % 2 ^ (8 * s), s, 0) := by
  have hl : ¬ (wordL s n ++ r).length - 0 < s := by rw [List.length_append, wordL_len]; omega
  simp only [rdP, if_neg hl, le_back s n r s (Nat.le_refl _), Nat.zero_add]

/-! ### Chunks -/
theorem ck_back (b r : List UInt8) (hb : b.length < 18446744073709551616) : ckP (vb b.length ++ b ++ r) 0 = (b, (vb b.length ++ b).length, 0) := by
  have g := gv_back b.length hb (b ++ r)
  simp only [ckP]
  rw [List.append_assoc, g]
  simp only [ne_eq, not_true_eq_false, if_false]
  rw [if_neg (by simp)]
  simp only [List.length_append, Prod.mk.injEq, and_true]
  rw [List.take_append, List.take_of_length_le (by omega), show (vb b.length).length + b.length - (vb b.length).length = b.length by omega, List.drop_append_of_le_length (by omega), List.drop_length]
  simp

/-! ### Signs -/
theorem wrap_sgn_back {n : Int} (h0 : 0 ≤ n) (h1 : n ≤ 18446744073709551615) : IntKind.u64.wrap (sgn n) = n := by
  rcases sgn_or (n := n) with ⟨a, b⟩ | ⟨a, b⟩
  · rw [b, wrap_u64 h0 h1]
  · rw [b, wrap_u64_neg (by omega) (by omega)]; omega
theorem zag_zz (z : Int) : zag (zz z) = z := by
  simp only [zag, zz]
  split
  · rw [if_pos (by omega)]; omega
  · rw [if_neg (by omega)]; omega

/-! ### Numbers by base 10 -/
theorem parse_dec (M : Nat) (hM : M ≤ 18446744073709551615) : ∀ (n : Nat) (rest : List UInt8), n ≤ M → Lib.parseUintM M 0 (Lib.decDigits n ++ rest) = Lib.parseUintM M n rest := by
  intro n
  induction n using Nat.strongRecOn with
  | _ n ih =>
    intro rest hn
    rw [Lib.decDigits]
    by_cases h : n < 10
    · rw [dif_pos h, List.cons_append, List.nil_append, Lib.parseUintM, toNat_of _ (by omega), if_pos (by omega), if_neg (by omega), if_neg (by omega)]
      congr 1
      omega
    · rw [dif_neg h, List.append_assoc, ih (n / 10) (by omega) _ (by omega), List.cons_append, List.nil_append, Lib.parseUintM, toNat_of _ (by omega), if_pos (by omega), if_neg (by omega), if_neg (by omega)]
      congr 1
      omega
theorem dec_digit : ∀ (n : Nat), ∀ c ∈ Lib.decDigits n, 48 ≤ c.toNat ∧ c.toNat ≤ 57 := by
  intro n
  induction n using Nat.strongRecOn with
  | _ n ih =>
    rw [Lib.decDigits]
    by_cases h : n < 10
    · rw [dif_pos h]
      intro c hc
      rw [List.mem_singleton.1 hc, toNat_of _ (by omega)]
      omega
    · rw [dif_neg h]
      intro c hc
      rcases List.mem_append.1 hc with hc | hc
      · exact ih (n / 10) (by omega) c hc
      · rw [List.mem_singleton.1 hc, toNat_of _ (by omega)]
        omega
theorem dec_len : ∀ (k n : Nat), n < 10 ^ (k + 1) → (Lib.decDigits n).length ≤ k + 1
  | 0, n, h => by rw [Lib.decDigits, dif_pos (by simpa using h)]; simp
  | k + 1, n, h => by
    rw [Lib.decDigits]
    split
    · simp
    · have := dec_len k (n / 10) (by rw [Nat.pow_succ] at h; omega)
      simp only [List.length_append, List.length_cons, List.length_nil]
      omega
theorem dec_ne (n : Nat) : Lib.decDigits n ≠ [] := by
  rw [Lib.decDigits]
  split <;> simp
theorem parse_back (n : Nat) (hn : n < 18446744073709551616) : Lib.parseUintB 64 (Lib.decDigits n) = .ok n := by
  have h := parse_dec (2 ^ 64 - 1) (by decide) n [] (by omega)
  rw [List.append_nil] at h
  rw [Lib.parseUintB, if_neg (dec_ne n), h]
  rfl
theorem dec_len20 (n : Nat) (hn : n < 18446744073709551616) : (Lib.decDigits n).length ≤ 20 := dec_len 19 n (by omega)

/-! ### Numbers by base 16 -/
theorem hexDigit_back : ∀ n : Fin 16, hexI (YtedncpnkbpbchaaGreatDoor.hexDigit n.val).toNat = n.val := by decide +kernel
def hv (l : List UInt8) : Nat := l.foldl (fun a c => a * 16 + (hexI c.toNat).toNat) 0
theorem hv_snoc (l : List UInt8) (c : UInt8) : hv (l ++ [c]) = hv l * 16 + (hexI c.toNat).toNat := by simp [hv, List.foldl_append]
theorem hexF_val : ∀ (f n : Nat), 1 ≤ f → n < 16 ^ f → hv (hexF f n) = n ∧ ∀ c ∈ hexF f n, 0 ≤ hexI c.toNat
  | 0, n, h, _ => by omega
  | f + 1, n, _, h => by
    rw [hexF]
    by_cases hn : n < 16
    · rw [if_pos hn]
      have := hexDigit_back ⟨n, hn⟩
      simp only at this
      refine ⟨by simp [hv, this], fun c hc => ?_⟩
      rw [List.mem_singleton.1 hc, this]
      omega
    · rw [if_neg hn]
      have hf : 1 ≤ f := by
        rcases Nat.eq_zero_or_pos f with rfl | h'
        · simp at h; omega
        · exact h'
      obtain ⟨h1, h2⟩ := hexF_val f (n / 16) hf (by rw [Nat.pow_succ] at h; omega)
      have := hexDigit_back ⟨n % 16, by omega⟩
      simp only at this
      refine ⟨?_, fun c hc => ?_⟩
      · rw [hv_snoc, h1, this]
        omega
      · rcases List.mem_append.1 hc with hc | hc
        · exact h2 c hc
        · rw [List.mem_singleton.1 hc, this]
          omega
theorem hexF_len : ∀ (f n m : Nat), n < 16 ^ m → 1 ≤ m → (hexF f n).length ≤ m
  | 0, n, m, _, _ => by simp [hexF]
  | f + 1, n, m, h, hm => by
    rw [hexF]
    split
    · simpa using hm
    · rename_i hn
      obtain ⟨m, rfl⟩ : ∃ k, m = k + 1 := ⟨m - 1, by omega⟩
      have h1 : 1 ≤ m := by
        rcases Nat.eq_zero_or_pos m with rfl | h'
        · simp at h; omega
        · exact h'
      have := hexF_len f (n / 16) m (by rw [Nat.pow_succ] at h; omega) h1
      simp only [List.length_append, List.length_cons, List.length_nil]
      omega
/-- A number's digits by base 16, so many. -/
def padL (many n : Nat) : List UInt8 := Lib.repeatL [48] (many - (hexL n).length) ++ hexL n
theorem rep_len : ∀ k, (Lib.repeatL [48] k).length = k
  | 0 => rfl
  | k + 1 => by simp [Lib.repeatL, rep_len k]
theorem rep_zero : ∀ k, ∀ c ∈ Lib.repeatL [48] k, c = 48
  | 0, c, h => by simp [Lib.repeatL] at h
  | k + 1, c, h => by
    simp only [Lib.repeatL, List.cons_append, List.nil_append, List.mem_cons] at h
    rcases h with h | h
    · exact h
    · exact rep_zero k c h
theorem hv_zeros : ∀ (k : Nat) (l : List UInt8), hv (Lib.repeatL [48] k ++ l) = hv l
  | 0, l => by simp [Lib.repeatL]
  | k + 1, l => by
    have := hv_zeros k l
    simp only [hv, Lib.repeatL, List.cons_append, List.nil_append, List.foldl_cons] at this ⊢
    exact this
theorem pad_len (many n : Nat) (h : n < 16 ^ many) (hm : 1 ≤ many) : (padL many n).length = many := by
  have := hexF_len 16 n many h hm
  simp only [padL, List.length_append, rep_len, hexL] at this ⊢
  omega
theorem pad_val (many n : Nat) (h : n < 18446744073709551616) : hv (padL many n) = n := by
  rw [padL, hv_zeros]
  exact (hexF_val 16 n (by omega) (by omega)).1
theorem pad_digit (many n : Nat) (h : n < 18446744073709551616) : ∀ c ∈ padL many n, 0 ≤ hexI c.toNat := by
  intro c hc
  rcases List.mem_append.1 hc with hc | hc
  · rw [rep_zero _ c hc]; decide
  · exact (hexF_val 16 n (by omega) (by omega)).2 c hc
theorem hv_lt : ∀ (m : Nat) (l : List UInt8), l.length ≤ m → hv l < 16 ^ l.length := by
  intro m
  induction m with
  | zero =>
    intro l h
    obtain rfl : l = [] := List.eq_nil_of_length_eq_zero (by omega)
    simp [hv]
  | succ m ih =>
    intro l h
    rcases List.eq_nil_or_concat l with rfl | ⟨l', c, rfl⟩
    · simp [hv]
    · simp only [List.concat_eq_append, List.length_append, List.length_cons, List.length_nil] at h ⊢
      have h1 := ih l' (by omega)
      have h2 := hexI_range c.toNat
      rw [hv_snoc, Nat.pow_succ]
      omega

/-! ### Names -/
theorem names_back : ∀ j : Fin 15, kindP (nameP ((j.val : Int) + 1)) = j.val + 1 := by decide +kernel
end Go.Proofs.YtedncpnkbpbchaaGreatDoor
