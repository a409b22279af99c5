/-
  ScalarBack returns true: for all its arguments of a bounded bulk, if the listed variables hold what the program's text lays into them.
-/
import Derived.Test.YtedncpnkbpbchaaGreatDoorLaws
import Derived.Test.YtedncpnkbpbchaaGreatDoorVals
import Derived.Test.YtedncpnkbpbchaaGreatDoorBack
import Derived.Deep.DeepWitnessRowRef
import Derived.Test.YtedncpnkbpbchaaGreatDoorBulk
set_option maxRecDepth 100000
namespace Go.Proofs.YtedncpnkbpbchaaGreatDoor
open Go.Vi Go.ChangeShapes Go.WideShapes Go.ChangeAt Go.RowKit

namespace ScalarBackRow
theorem contract (H : Type) (enc : TypeId × Value → H) (W : World) (base : Nat) (args : Array Value) (ds gs : List (DataW H)) (before : List MemPlace)
    (hval : ∀ (j : Nat) t v, Tryz.f3.params[j]? = some t → args[j]? = some v → Value.okWide Tryz.prog W .any base t v)
    (hW : DataW.Whole enc Tryz.prog Tryz.f3.params.toList Rows.scalarBackSpec.vars false W args.toList ds gs before) (hsmall : Rows.uptoBulkAll (ds ++ gs) ≤ 1048576) (hL : laidMetH Tryz.prog laidList W) :
    Calls Tryz.prog 3 args W fun e W' => ∃ v, e = .returned v ∧ Rows.scalarBackSpec.post enc Tryz.prog Tryz.f3 false true false false W args v W' := by
  have hW' := hW
  obtain ⟨p, q, hA0, hV, _, _, _⟩ := hW
  have hA : DataW.TrodAll enc Tryz.prog W 0 (fun _ => true) true Tryz.f3.params.toList args.toList ds p := hA0
  rw [Tryz.params3] at hA hval
  obtain ⟨v0, v1, v2, d0, d1, d2, p0, p1, p2, hargs, rfl, rfl, h0, h1, h2⟩ := trodAll_three hA
  subst hargs
  obtain ⟨rfl, rfl⟩ := trodVars_none hV
  obtain ⟨n0, r0, w0⟩ := arg_int Tryz.underlying3 (hval 0 3 v0 rfl rfl) h0
  obtain ⟨n1, b1, m1, e10, e11, e12, r1, lo1, hi1, lb1, lm1, q1, k1⟩ := val_arg (hval 1 26 v1 rfl rfl) h1
  obtain ⟨b2, r2, lb2, k2⟩ := arg_bytes Tryz.underlying23 Tryz.underlying5 c5 (hval 2 23 v2 rfl rfl) h2
  simp only [List.append_nil, Rows.uptoBulkAll] at hsmall
  rw [q1] at hsmall
  simp only [Rows.uptoBulk, Rows.uptoBulkAll] at hsmall
  have x1 := bulk_bytes k1
  have x2 := bulk_bytes k2
  obtain ⟨n1, rfl⟩ := Int.eq_ofNat_of_zero_le lo1
  refine law_post (tb := 4) laidOut rfl hW' (by kernel_rfl) (by kernel_rfl) Tryz.underlying4 rfl ?_
  refine law_calls (machOK hL) (globs hL) (back_data n0 n1 b1 b2 (List.replicate m1 anyD) (by omega) (by omega)) rfl (fun i x hx => ?_)
  match i, hx with
  | 0, hx => cases hx; exact ⟨_, rfl, r0⟩
  | 1, hx => cases hx; exact ⟨_, rfl, r1⟩
  | 2, hx => cases hx; exact ⟨_, rfl, r2⟩

def argsW : Array Value := #[.int .i64 0, .agg #[.int .u64 0, .slice none 0 0, .slice none 0 0], .slice none 0 0]
theorem reads (os : Os) {H : Type} (enc : TypeId × Value → H) : ∃ places, DataW.whole enc Tryz.prog ((laidWorld os).forCall (fun _ _ => 0) ⟨#[], argsW, []⟩).memory Tryz.f3.params.toList Rows.scalarBackSpec.vars false argsW.toList 8 = some ([.lit (.int .i64 0), .agg [.lit (.int .u64 0), .nil, .nil], .nil], [], places) :=
  ⟨[], by kernel_rfl⟩

theorem lifted (os : Os) (started : os.Started) (H : Type) (enc : TypeId × Value → H) (F : Stop.Interp) :
    ReturnsInHanded {} Tryz.checked os 3 .any ((Rows.OpenSpec.upto Rows.scalarBackSpec).preRow enc Tryz.prog Tryz.f3 Rows.scalarBackUptoRow.domain false Rows.scalarBackUptoRow.laid) (((Rows.OpenSpec.upto Rows.scalarBackSpec).at F).post enc Tryz.prog Tryz.f3 false true false false) := by
  obtain ⟨places, hx⟩ := reads os enc
  refine returnsInHanded_of_row (C := Tryz.checked) (s := Rows.OpenSpec.upto Rows.scalarBackSpec) own started (by kernel_rfl) Tryz.func3
    (witness_row_atRef (enc := enc) (C := Tryz.checked) false (laidWorld os) argsW rfl (by kernel_rfl) (by kernel_rfl) (by kernel_rfl)
      (OpenSpec.preRow_of_cond 8 hx (by kernel_rfl) (fun k hk => by cases hk; kernel_rfl) (by kernel_rfl) (laid_met os _))) ?_
  intro W base args ds gs before hval hW _ hcond _ hL _ _
  have hsmall : Rows.uptoBulkAll (ds ++ gs) ≤ 1048576 := of_decide_eq_true (hcond _ rfl)
  exact contract H enc W base args ds gs before hval hW hsmall hL

theorem said : Rows.ScalarBackUptoSaid :=
  OpenClaim.holds_of_cond 3 Tryz.f3 rfl rfl rfl rfl rfl rfl rfl ⟨rfl, rfl, rfl, rfl, rfl⟩ rfl rfl rfl rfl rfl (by kernel_rfl) Tryz.func3 (by kernel_rfl)
    (of_decide_eq_true (by kernel_rfl)) (by unfold Func.isWrapper; first | (rw [if_pos (by decide +kernel)]; kernel_rfl) | (rw [if_neg (by decide +kernel)]; exact ⟨rfl, rfl⟩))
    (fun os started H enc _ F => by rw [OpenClaim.pre_eq_preRow]; exact lifted os started H enc F)

theorem plain (f : FuncId) (fn : Func) (hf : Tryz.pinned.checked.prog.funcNamed "cartouche/cartouchelaw3.ScalarBack" = some f) (hfn : Tryz.pinned.checked.prog.funcs[f]? = some fn) :
    true = Tryz.pinned.checked.prog.looks [] ∧ ∀ (j : Nat) t, fn.params[j]? = some t → Tryz.pinned.checked.prog.wantsStandIn t = false := by
  obtain rfl : f = 3 := Option.some.inj ((show Tryz.prog.funcNamed "cartouche/cartouchelaw3.ScalarBack" = some 3 by kernel_rfl).symm.trans hf) |>.symm
  obtain rfl : fn = Tryz.f3 := (Option.some.inj (Tryz.func3.symm.trans hfn)).symm
  refine ⟨by kernel_rfl, fun j t ht => ?_⟩
  rw [Tryz.params3] at ht
  have hm : t ∈ [3, 26, 23] := by simpa using Array.mem_of_getElem? ht
  have hall : ([3, 26, 23].all fun u => !Tryz.prog.wantsStandIn u) = true := by kernel_rfl
  exact (show Tryz.prog.wantsStandIn t = false by simpa using List.all_eq_true.1 hall t hm)

theorem card : Rows.ScalarBackUptoCardSaid :=
  Claim7.holds_tied_plain_at .later [] _ _ _ _ said (fun _ h => by cases h) (by kernel_rfl) (fun _ h => by cases h) scalarBackUpto_row_tie rfl ⟨rfl, rfl⟩ (by kernel_rfl) rfl plain (by kernel_rfl)
end ScalarBackRow
/-- ScalarBack's card, the second form. -/
theorem scalarBackUpto_holds : Rows.ScalarBackUptoCardSaid := ScalarBackRow.card
#print axioms scalarBackUpto_holds
end Go.Proofs.YtedncpnkbpbchaaGreatDoor
