/-
  The verified interpreter: a call that hands on its first argument's tail; bits of bytes and words as counts.
-/
import Derived.Test.YtedncpnkbpbchaaGreatDoorViSet
set_option linter.unusedVariables false
set_option linter.unusedSimpArgs false
namespace Go.Vi
section
variable {gl : Nat → Option D} {cf : Nat → List V → Option V} {dst : Option Nat} {rs : RS}
def ownR (dst : Option Nat) (rs : RS) (cf : Nat → List V → Option V) (f s : Nat) : Option V → Option D → Option RS
  | some (.own sz xs), some d => layV dst { env := upd rs.env s (some (.d (.slice sz xs))), bx := rs.bx } (cf f [.own sz xs, .d d])
  | some (.d x), some d => layV dst rs (cf f [.d x, .d d])
  | _, _ => none
theorem s_callM {f s : Nat} {b : Opd} : step1 gl cf dst (.call f [(true, .t s), (false, b)]) rs = ownR dst rs cf f s (rs.env s) (evD gl rs.env b) := by
  have ht : take gl rs.env false b = (evD gl rs.env b).map fun d => (V.d d, []) := by
    simp only [take, evD]
    cases ev gl rs.env b with
    | none => rfl
    | some v => cases v <;> rfl
  have h0 : ev gl rs.env (.t s) = rs.env s := rfl
  simp only [step1, eff, takeArgs, ht]
  simp only [take, h0]
  cases h : rs.env s with
  | none => rfl
  | some v =>
    cases v <;> (try rfl)
    case d x =>
      cases evD gl rs.env b with
      | none => rfl
      | some d =>
        simp only [Option.map_some, Option.bind_some, ownR, oneOwn, isOwn]
        cases cf f [.d x, .d d] <;> rfl
    case own sz xs =>
      cases evD gl rs.env b with
      | none => rfl
      | some d =>
        simp only [Option.map_some, Option.bind_some, ownR, if_true, oneOwn, isOwn]
        cases cf f [.own sz xs, .d d] <;> rfl
theorem e_ownO {f s sz : Nat} {xs : List D} {d : D} : ownR dst rs cf f s (some (.own sz xs)) (some d) = layV dst { env := upd rs.env s (some (.d (.slice sz xs))), bx := rs.bx } (cf f [.own sz xs, .d d]) := rfl
theorem e_ownD {f s : Nat} {x d : D} : ownR dst rs cf f s (some (.d x)) (some d) = layV dst rs (cf f [.d x, .d d]) := rfl
end

theorem tdiv_nat {n m : Nat} : ((n : Int)).tdiv m = ((n / m : Nat) : Int) := (Int.ofNat_tdiv n m).symm
theorem tmod_nat {n m : Nat} : ((n : Int)).tmod m = ((n % m : Nat) : Int) := (Int.ofNat_tmod n m).symm
theorem fdiv_nat {n m : Nat} : ((n : Int)).fdiv m = ((n / m : Nat) : Int) := by
  rw [Int.fdiv_eq_ediv_of_nonneg _ (by omega)]; omega
theorem wrap_byte {n : Nat} : IntKind.u8.wrap (n : Int) = ((n % 256 : Nat) : Int) := by
  simp [IntKind.wrap, IntKind.min, IntKind.max, IntKind.signed, IntKind.bits]
theorem or128_tab : ∀ m : Fin 256, bitsD .or .u8 ((m.val : Nat) : Int) 128 = ((m.val % 128 + 128 : Nat) : Int) := by decide +kernel
theorem or128 {n : Nat} : bitsD .or .u8 ((n % 256 : Nat) : Int) 128 = ((n % 128 + 128 : Nat) : Int) := by
  have := or128_tab ⟨n % 256, Nat.mod_lt _ (by omega)⟩
  simp only at this
  rw [this]
  congr 1; omega
theorem and127_tab : ∀ m : Fin 256, bitsD .and .u8 ((m.val : Nat) : Int) 127 = ((m.val % 128 : Nat) : Int) := by decide +kernel
theorem and127 {n : Nat} (h : n < 256) : bitsD .and .u8 (n : Int) 127 = ((n % 128 : Nat) : Int) := and127_tab ⟨n, h⟩
theorem byteD_ofNat {n : Nat} (h : n < 256) : byteD (UInt8.ofNat n) = .int .u8 (n : Int) := by
  simp only [byteD, UInt8.toNat_ofNat']
  rw [Nat.mod_eq_of_lt (by omega)]
end Go.Vi
