/-
  ScalarBytes returns true: for all its arguments of a bounded bulk, if the two tables of unicode/utf8 hold what the program's text lays into them.
-/
import Derived.Test.YtedncpnkbpbchaaDoorLaws
import Derived.Test.YtedncpnkbpbchaaDoorVals
import Derived.Test.YtedncpnkbpbchaaDoorBytes
import Derived.Test.YtedncpnkbpbchaaDoorBulk
set_option maxRecDepth 100000
namespace Go.Proofs.YtedncpnkbpbchaaDoor
open Go.Vi Go.ChangeShapes Go.WideShapes Go.ChangeAt Go.RowKit

namespace ScalarBytesRow
theorem contract (H : Type) (enc : TypeId × Value → H) (W : World) (base : Nat) (args : Array Value) (ds gs : List (DataW H)) (before : List MemPlace)
    (hval : ∀ (j : Nat) t v, Tryd.f3.params[j]? = some t → args[j]? = some v → Value.okWide Tryd.prog W .any base t v)
    (hW : DataW.Whole enc Tryd.prog Tryd.f3.params.toList Rows.scalarBytesSpec.vars false W args.toList ds gs before) (hsmall : Rows.uptoBulkAll (ds ++ gs) ≤ 1048576) (hL : laidMetH Tryd.prog laidList W) :
    Calls Tryd.prog 3 args W fun e W' => ∃ v, e = .returned v ∧ Rows.scalarBytesSpec.post enc Tryd.prog Tryd.f3 false true false false W args v W' := by
  have hW' := hW
  obtain ⟨p, q, hA0, hV, _, _, _⟩ := hW
  have hA : DataW.TrodAll enc Tryd.prog W 0 (fun _ => true) true Tryd.f3.params.toList args.toList ds p := hA0
  rw [Tryd.params3] at hA hval
  obtain ⟨v0, v1, v2, v3, d0, d1, d2, d3, p0, p1, p2, p3, hargs, rfl, rfl, h0, h1, h2, h3⟩ := trodAll_four hA
  subst hargs
  obtain ⟨rfl, rfl⟩ := trodVars_none hV
  obtain ⟨n0, r0, w0⟩ := arg_int Tryd.underlying3 (hval 0 3 v0 rfl rfl) h0
  obtain ⟨n1, b1, m1, e10, e11, e12, r1, lo1, hi1, lb1, lm1, q1, k1⟩ := val_arg (hval 1 26 v1 rfl rfl) h1
  obtain ⟨b2, r2, lb2, k2⟩ := arg_bytes Tryd.underlying23 Tryd.underlying5 c5 (hval 2 23 v2 rfl rfl) h2
  obtain ⟨n3, r3, w3⟩ := arg_int Tryd.underlying3 (hval 3 3 v3 rfl rfl) h3
  simp only [List.append_nil, Rows.uptoBulkAll] at hsmall
  rw [q1] at hsmall
  simp only [Rows.uptoBulk, Rows.uptoBulkAll] at hsmall
  have hb1 : b1.length ≤ 1048576 := Nat.le_trans (bulk_bytes k1) (by omega)
  have hb2 : b2.length ≤ 1048576 := Nat.le_trans (bulk_bytes k2) (by omega)
  obtain ⟨n1, rfl⟩ := Int.eq_ofNat_of_zero_le lo1
  refine law_post (tb := 4) laidOut rfl hW' (by kernel_rfl) (by kernel_rfl) Tryd.underlying4 rfl ?_
  refine law_calls (machOK W) (globs hL) (bytes_data n0 n1 b1 b2 (List.replicate m1 anyD) n3 (by omega) hb1 hb2) rfl (fun i x hx => ?_)
  match i, hx with
  | 0, hx => cases hx; exact ⟨_, rfl, r0⟩
  | 1, hx => cases hx; exact ⟨_, rfl, r1⟩
  | 2, hx => cases hx; exact ⟨_, rfl, r2⟩
  | 3, hx => cases hx; exact ⟨_, rfl, r3⟩

def argsW : Array Value := #[.int .i64 0, .agg #[.int .u64 0, .slice none 0 0, .slice none 0 0], .slice none 0 0, .int .i64 0]
theorem reads (os : Os) {H : Type} (enc : TypeId × Value → H) : ∃ places, DataW.whole enc Tryd.prog ((laidWorld os).forCall (fun _ _ => 0) ⟨#[], argsW, []⟩).memory Tryd.f3.params.toList Rows.scalarBytesSpec.vars false argsW.toList 8 = some ([.lit (.int .i64 0), .agg [.lit (.int .u64 0), .nil, .nil], .nil, .lit (.int .i64 0)], [], places) :=
  ⟨[], by kernel_rfl⟩

theorem lifted (os : Os) (started : os.Started) (H : Type) (enc : TypeId × Value → H) (F : Stop.Interp) :
    ReturnsInHanded {} Tryd.checked os 3 .any ((Rows.OpenSpec.upto Rows.scalarBytesSpec).preRow enc Tryd.prog Tryd.f3 Rows.scalarBytesUptoRow.domain false Rows.scalarBytesUptoRow.laid) (((Rows.OpenSpec.upto Rows.scalarBytesSpec).at F).post enc Tryd.prog Tryd.f3 false true false false) := by
  obtain ⟨places, hx⟩ := reads os enc
  refine returnsInHanded_of_row (C := Tryd.checked) (s := Rows.OpenSpec.upto Rows.scalarBytesSpec) own started (by kernel_rfl) Tryd.func3
    (witness_row_at (enc := enc) (C := Tryd.checked) false (laidWorld os) argsW rfl (by kernel_rfl) (by kernel_rfl) (by kernel_rfl)
      (OpenSpec.preRow_of_cond 8 hx (by kernel_rfl) (fun k hk => by cases hk; kernel_rfl) (by kernel_rfl) (laid_met os _))) ?_
  intro W base args ds gs before hval hW _ hcond _ hL _ _
  have hsmall : Rows.uptoBulkAll (ds ++ gs) ≤ 1048576 := of_decide_eq_true (hcond _ rfl)
  exact contract H enc W base args ds gs before hval hW hsmall hL

theorem said : Rows.ScalarBytesUptoSaid :=
  OpenClaim.holds_of_cond 3 Tryd.f3 rfl rfl rfl rfl rfl rfl rfl ⟨rfl, rfl, rfl, rfl, rfl⟩ rfl rfl rfl rfl rfl (by kernel_rfl) Tryd.func3 (by kernel_rfl)
    (of_decide_eq_true (by kernel_rfl)) (by unfold Func.isWrapper; first | (rw [if_pos (by decide +kernel)]; kernel_rfl) | (rw [if_neg (by decide +kernel)]; exact ⟨rfl, rfl⟩))
    (fun os started H enc _ F => by rw [OpenClaim.pre_eq_preRow]; exact lifted os started H enc F)

theorem plain (f : FuncId) (fn : Func) (hf : Tryd.pinned.checked.prog.funcNamed "cartouche/cartouchelaw3.ScalarBytes" = some f) (hfn : Tryd.pinned.checked.prog.funcs[f]? = some fn) :
    false = Tryd.pinned.checked.prog.looks [] ∧ ∀ (j : Nat) t, fn.params[j]? = some t → Tryd.pinned.checked.prog.wantsStandIn t = false := by
  obtain rfl : f = 3 := Option.some.inj ((show Tryd.prog.funcNamed "cartouche/cartouchelaw3.ScalarBytes" = some 3 by kernel_rfl).symm.trans hf) |>.symm
  obtain rfl : fn = Tryd.f3 := (Option.some.inj (Tryd.func3.symm.trans hfn)).symm
  refine ⟨by kernel_rfl, fun j t ht => ?_⟩
  rw [Tryd.params3] at ht
  have hm : t ∈ [3, 26, 23, 3] := by simpa using Array.mem_of_getElem? ht
  have hall : ([3, 26, 23, 3].all fun u => !Tryd.prog.wantsStandIn u) = true := by kernel_rfl
  exact (show Tryd.prog.wantsStandIn t = false by simpa using List.all_eq_true.1 hall t hm)

theorem card : Rows.ScalarBytesUptoCardSaid :=
  Claim7.holds_tied_plain_at .later [] _ _ _ _ said (fun _ h => by cases h) (by kernel_rfl) (fun _ h => by cases h) scalarBytesUpto_row_tie rfl ⟨rfl, rfl⟩ (by kernel_rfl) rfl plain (by kernel_rfl)
end ScalarBytesRow
/-- ScalarBytes's card, the second form. -/
theorem scalarBytesUpto_holds : Rows.ScalarBytesUptoCardSaid := ScalarBytesRow.card
#print axioms scalarBytesUpto_holds
end Go.Proofs.YtedncpnkbpbchaaDoor
