/-
  The verified interpreter: rows of bytes, wrapped numbers, loops.
-/
import Derived.Test.YtedncpnkbpbchaaGreatDoorViSym
set_option linter.unusedVariables false
set_option linter.unusedSimpArgs false
namespace Go.Vi

theorem wrap_i64 {x : Int} (h0 : -9223372036854775808 ≤ x) (h1 : x ≤ 9223372036854775807) : IntKind.i64.wrap x = x := by
  simp [IntKind.wrap, IntKind.min, IntKind.max, IntKind.signed, IntKind.bits]; omega
theorem wrap_i32 {x : Int} (h0 : -2147483648 ≤ x) (h1 : x ≤ 2147483647) : IntKind.i32.wrap x = x := by
  simp [IntKind.wrap, IntKind.min, IntKind.max, IntKind.signed, IntKind.bits]; omega
theorem wrap_u64 {x : Int} (h0 : 0 ≤ x) (h1 : x ≤ 18446744073709551615) : IntKind.u64.wrap x = x := by
  simp [IntKind.wrap, IntKind.min, IntKind.max, IntKind.signed, IntKind.bits]; omega
theorem wrap_u32 {x : Int} (h0 : 0 ≤ x) (h1 : x ≤ 4294967295) : IntKind.u32.wrap x = x := by
  simp [IntKind.wrap, IntKind.min, IntKind.max, IntKind.signed, IntKind.bits]; omega
theorem wrap_u8 {x : Int} (h0 : 0 ≤ x) (h1 : x ≤ 255) : IntKind.u8.wrap x = x := by
  simp [IntKind.wrap, IntKind.min, IntKind.max, IntKind.signed, IntKind.bits]; omega
theorem wrap_u8_mod {x : Int} : IntKind.u8.wrap x = x % 256 := by
  simp [IntKind.wrap, IntKind.min, IntKind.max, IntKind.signed, IntKind.bits]

/-- A byte as a datum. -/
def byteD (b : UInt8) : D := .int .u8 b.toNat
theorem bytesD_eq (s : List UInt8) : bytesD s = s.map byteD := rfl
theorem bytesD_nil : bytesD [] = [] := rfl
theorem bytesD_cons (b : UInt8) (s : List UInt8) : bytesD (b :: s) = byteD b :: bytesD s := rfl
theorem bytesD_append (s t : List UInt8) : bytesD (s ++ t) = bytesD s ++ bytesD t := by simp [bytesD]
theorem bytesD_length (s : List UInt8) : (bytesD s).length = s.length := by simp [bytesD]
theorem bytesD_get (s : List UInt8) (i : Nat) : (bytesD s)[i]? = (s[i]?).map byteD := by simp [bytesD_eq]
theorem bytesD_take (s : List UInt8) (n : Nat) : (bytesD s).take n = bytesD (s.take n) := by simp [bytesD, List.map_take]
theorem bytesD_drop (s : List UInt8) (n : Nat) : (bytesD s).drop n = bytesD (s.drop n) := by simp [bytesD, List.map_drop]
theorem byteOf_byteD (b : UInt8) : byteOf (byteD b) = some b := by simp [byteOf, byteD]
theorem bytesOf_bytesD : ∀ s : List UInt8, bytesOf (bytesD s) = some s
  | [] => rfl
  | b :: s => by rw [bytesD_cons]; simp [bytesOf, byteOf_byteD, bytesOf_bytesD s]
theorem e_cstrB {sz : Nat} {s : List UInt8} : cstrR (some (.slice sz (bytesD s))) = some (.str s) := e_cstr (bytesOf_bytesD s)

/-- A loop whose rounds go from state to state. -/
theorem loop_to {M : Mach} {b : SC} {inv : Nat → St} {n : Nat} {r : Option (Ex × St)} (hstep : ∀ i, i < n → X M b (inv i) = some (.norm, inv (i + 1))) (hend : X M (.loop b) (inv n) = r) : ∀ i, i ≤ n → X M (.loop b) (inv i) = r := by
  intro i hi
  obtain ⟨k, rfl⟩ : ∃ k, n = i + k := ⟨n - i, by omega⟩
  induction k generalizing i with
  | zero => exact hend
  | succ k ih =>
    rw [X_loop, hstep i (by omega)]
    have := ih (i + 1) (fun j hj => hstep j (by omega)) (by rw [show i + 1 + k = i + (k + 1) by omega]; exact hend) (by omega)
    simpa only [andThen] using this
theorem loop_exit {M : Mach} {b : SC} {st st' : St} {e : Ex} (h : X M b st = some (e, st')) (he : e ≠ .norm) : X M (.loop b) st = some (e, st') := by
  rw [X_loop, h]
  cases e <;> first | rfl | exact absurd rfl he
end Go.Vi
