/-
  ScalarChain returns true: for all its arguments, if the two tables of unicode/utf8 hold what the program's text lays into them.
-/
import Derived.Test.YtedncpnkbpbchaaDoorLaws
import Derived.Test.YtedncpnkbpbchaaDoorVals
import Derived.Test.YtedncpnkbpbchaaDoorOrd

set_option maxRecDepth 100000
namespace Go.Proofs.YtedncpnkbpbchaaDoor
open Go.Vi Go.ChangeShapes Go.WideShapes Go.ChangeAt Go.RowKit

namespace ScalarChainRow
theorem contract (H : Type) (enc : TypeId × Value → H) (W : World) (base : Nat) (args : Array Value) (ds gs : List (DataW H)) (before : List MemPlace)
    (hval : ∀ (j : Nat) t v, Tryd.f5.params[j]? = some t → args[j]? = some v → Value.okWide Tryd.prog W .any base t v)
    (hW : DataW.Whole enc Tryd.prog Tryd.f5.params.toList Rows.scalarChainSpec.vars false W args.toList ds gs before) (hL : laidMetH Tryd.prog laidList W) :
    Calls Tryd.prog 5 args W fun e W' => ∃ v, e = .returned v ∧ Rows.scalarChainSpec.post enc Tryd.prog Tryd.f5 false true false false W args v W' := by
  have hW' := hW
  obtain ⟨p, q, hA0, hV, _, _, _⟩ := hW
  have hA : DataW.TrodAll enc Tryd.prog W 0 (fun _ => true) true Tryd.f5.params.toList args.toList ds p := hA0
  rw [Tryd.params5] at hA hval
  obtain ⟨v0, v1, v2, v3, d0, d1, d2, d3, p0, p1, p2, p3, hargs, rfl, rfl, h0, h1, h2, h3⟩ := trodAll_four hA
  subst hargs
  obtain ⟨rfl, rfl⟩ := trodVars_none hV
  obtain ⟨n0, r0, w0⟩ := arg_int Tryd.underlying3 (hval 0 3 v0 rfl rfl) h0
  obtain ⟨n1, b1, m1, e10, e11, e12, r1, lo1, hi1, lb1, lm1, q1, k1⟩ := val_arg (hval 1 26 v1 rfl rfl) h1
  obtain ⟨n2, b2, m2, e20, e21, e22, r2, lo2, hi2, lb2, lm2, q2, k2⟩ := val_arg (hval 2 26 v2 rfl rfl) h2
  obtain ⟨n3, b3, m3, e30, e31, e32, r3, lo3, hi3, lb3, lm3, q3, k3⟩ := val_arg (hval 3 26 v3 rfl rfl) h3
  refine law_post (tb := 4) laidOut rfl hW' (by kernel_rfl) (by kernel_rfl) Tryd.underlying4 rfl ?_
  refine law_calls (machOK W) (globs hL) (chain_data n0 n1 n2 n3 b1 b2 b3 (List.replicate m1 anyD) (List.replicate m2 anyD) (List.replicate m3 anyD) ⟨lo1, hi1⟩ ⟨lo2, hi2⟩ ⟨lo3, hi3⟩) rfl (fun i x hx => ?_)
  match i, hx with
  | 0, hx => cases hx; exact ⟨_, rfl, r0⟩
  | 1, hx => cases hx; exact ⟨_, rfl, r1⟩
  | 2, hx => cases hx; exact ⟨_, rfl, r2⟩
  | 3, hx => cases hx; exact ⟨_, rfl, r3⟩

def argsW : Array Value := #[.int .i64 0, .agg #[.int .u64 0, .slice none 0 0, .slice none 0 0], .agg #[.int .u64 0, .slice none 0 0, .slice none 0 0], .agg #[.int .u64 0, .slice none 0 0, .slice none 0 0]]
theorem reads (os : Os) {H : Type} (enc : TypeId × Value → H) : ∃ places, DataW.whole enc Tryd.prog ((laidWorld os).forCall (fun _ _ => 0) ⟨#[], argsW, []⟩).memory Tryd.f5.params.toList Rows.scalarChainSpec.vars false argsW.toList 8 = some ([.lit (.int .i64 0), .agg [.lit (.int .u64 0), .nil, .nil], .agg [.lit (.int .u64 0), .nil, .nil], .agg [.lit (.int .u64 0), .nil, .nil]], [], places) :=
  ⟨[], by kernel_rfl⟩

theorem lifted (os : Os) (started : os.Started) (H : Type) (enc : TypeId × Value → H) (F : Stop.Interp) :
    ReturnsInHanded {} Tryd.checked os 5 .any ((OpenSpec.ofChange Rows.scalarChainSpec).preRow enc Tryd.prog Tryd.f5 Rows.scalarChainRow.domain false Rows.scalarChainRow.laid) (((OpenSpec.ofChange Rows.scalarChainSpec).at F).post enc Tryd.prog Tryd.f5 false true false false) := by
  obtain ⟨places, hx⟩ := reads os enc
  refine returnsInHanded_of_row (C := Tryd.checked) (s := OpenSpec.ofChange Rows.scalarChainSpec) own started (by kernel_rfl) Tryd.func5
    (witness_row_at (enc := enc) (C := Tryd.checked) false (laidWorld os) argsW rfl (by kernel_rfl) (by kernel_rfl) (by kernel_rfl)
      (OpenSpec.preRow_of_cond 8 hx (by kernel_rfl) (fun k hk => by cases hk) (by kernel_rfl) (laid_met os _))) ?_
  intro W base args ds gs before hval hW _ _ _ hL _ _
  exact contract H enc W base args ds gs before hval hW hL

theorem said : Rows.ScalarChainSaid :=
  OpenClaim.holds_of_cond 5 Tryd.f5 rfl rfl rfl rfl rfl rfl rfl ⟨rfl, rfl, rfl, rfl, rfl⟩ rfl rfl rfl rfl rfl (by kernel_rfl) Tryd.func5 (by kernel_rfl)
    (of_decide_eq_true (by kernel_rfl)) (by unfold Func.isWrapper; first | (rw [if_pos (by decide +kernel)]; kernel_rfl) | (rw [if_neg (by decide +kernel)]; exact ⟨rfl, rfl⟩))
    (fun os started H enc _ F => by rw [OpenClaim.pre_eq_preRow]; exact lifted os started H enc F)

theorem plain (f : FuncId) (fn : Func) (hf : Tryd.pinned.checked.prog.funcNamed "cartouche/cartouchelaw3.ScalarChain" = some f) (hfn : Tryd.pinned.checked.prog.funcs[f]? = some fn) :
    false = Tryd.pinned.checked.prog.looks [] ∧ ∀ (j : Nat) t, fn.params[j]? = some t → Tryd.pinned.checked.prog.wantsStandIn t = false := by
  obtain rfl : f = 5 := Option.some.inj ((show Tryd.prog.funcNamed "cartouche/cartouchelaw3.ScalarChain" = some 5 by kernel_rfl).symm.trans hf) |>.symm
  obtain rfl : fn = Tryd.f5 := (Option.some.inj (Tryd.func5.symm.trans hfn)).symm
  refine ⟨by kernel_rfl, fun j t ht => ?_⟩
  rw [Tryd.params5] at ht
  have hm : t ∈ [3, 26, 26, 26] := by simpa using Array.mem_of_getElem? ht
  have hall : ([3, 26, 26, 26].all fun u => !Tryd.prog.wantsStandIn u) = true := by kernel_rfl
  exact (show Tryd.prog.wantsStandIn t = false by simpa using List.all_eq_true.1 hall t hm)

theorem card : Rows.ScalarChainCardSaid :=
  Claim7.holds_tied_plain_at .later [] _ _ _ _ said (fun _ h => by cases h) (by kernel_rfl) (fun _ h => by cases h) scalarChain_row_tie rfl ⟨rfl, rfl⟩ (by kernel_rfl) rfl plain (by kernel_rfl)
end ScalarChainRow
/-- ScalarChain's card. -/
theorem scalarChain_holds : Rows.ScalarChainCardSaid := ScalarChainRow.card
#print axioms scalarChain_holds
end Go.Proofs.YtedncpnkbpbchaaDoor
