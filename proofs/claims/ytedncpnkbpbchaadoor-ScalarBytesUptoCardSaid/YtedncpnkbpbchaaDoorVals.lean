/-
  A value that is handed in, at this program's types.
-/
import Derived.Test.YtedncpnkbpbchaaDoorLaws
import Derived.Test.YtedncpnkbpbchaaDoorViVal
set_option maxRecDepth 100000
namespace Go.Proofs.YtedncpnkbpbchaaDoor
open Go.Vi Go.ChangeShapes Go.WideShapes Go.ChangeAt Go.RowKit
theorem val_arg {H : Type} {enc : TypeId × Value → H} {W : World} {base : Nat} {v : Value} {d : DataW H} {ps : List MemPlace} (hval : Value.okWide Tryd.prog W .any base 26 v) (h : DataW.Trod enc Tryd.prog W 0 (fun _ => true) true 26 v d ps) :
    ∃ (n : Int) (b : List UInt8) (m : Nat) (d0 d1 d2 : DataW H), RelD W (oldG W).E v (.agg [.int .u64 n, .slice 1 (bytesD b), .slice 2 (List.replicate m anyD)]) ∧ 0 ≤ n ∧ n ≤ 18446744073709551615 ∧ b.length ≤ maxLen ∧ m ≤ maxLen ∧
      d = .agg [d0, d1, d2] ∧ ((d1 = .nil ∧ b = []) ∨ ∃ xs rest, d1 = .slice xs rest ∧ xs.length = b.length) :=
  arg_val Tryd.underlying26 (by kernel_rfl) rfl rfl rfl (by kernel_rfl) (by kernel_rfl) (by kernel_rfl) Tryd.underlying22 Tryd.underlying23 Tryd.underlying5 c5 Tryd.underlying24 Tryd.underlying137 (by kernel_rfl) rfl rfl (by kernel_rfl) (by kernel_rfl) Tryd.underlying134 Tryd.underlying135 hval h
end Go.Proofs.YtedncpnkbpbchaaDoor
