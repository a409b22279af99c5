/-
  A value that is handed in, at this program's types.
-/
import Derived.Test.YtedncpnkbpbchaaGreatDoorLaws
import Derived.Test.YtedncpnkbpbchaaGreatDoorViVal
set_option maxRecDepth 100000
namespace Go.Proofs.YtedncpnkbpbchaaGreatDoor
open Go.Vi Go.ChangeShapes Go.WideShapes Go.ChangeAt Go.RowKit
theorem val_arg {H : Type} {enc : TypeId × Value → H} {W : World} {base : Nat} {v : Value} {d : DataW H} {ps : List MemPlace} (hval : Value.okWide Tryz.prog W .any base 26 v) (h : DataW.Trod enc Tryz.prog W 0 (fun _ => true) true 26 v d ps) :
    ∃ (n : Int) (b : List UInt8) (m : Nat) (d0 d1 d2 : DataW H), RelD W (oldG W).E v (.agg [.int .u64 n, .slice 1 (bytesD b), .slice 2 (List.replicate m anyD)]) ∧ 0 ≤ n ∧ n ≤ 18446744073709551615 ∧ b.length ≤ maxLen ∧ m ≤ maxLen ∧
      d = .agg [d0, d1, d2] ∧ ((d1 = .nil ∧ b = []) ∨ ∃ xs rest, d1 = .slice xs rest ∧ xs.length = b.length) :=
  arg_val Tryz.underlying26 (by kernel_rfl) rfl rfl rfl (by kernel_rfl) (by kernel_rfl) (by kernel_rfl) Tryz.underlying22 Tryz.underlying23 Tryz.underlying5 c5 Tryz.underlying24 Tryz.underlying183 (by kernel_rfl) rfl rfl (by kernel_rfl) (by kernel_rfl) Tryz.underlying180 Tryz.underlying181 hval h
end Go.Proofs.YtedncpnkbpbchaaGreatDoor
