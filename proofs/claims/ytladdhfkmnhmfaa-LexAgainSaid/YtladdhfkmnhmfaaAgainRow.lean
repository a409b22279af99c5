/-
  LexAgain returns true: for any text and any bytes.
-/
import Derived.Test.YtladdhfkmnhmfaaLaws
import Derived.Test.YtladdhfkmnhmfaaAgain2
set_option maxRecDepth 100000
namespace Go.Proofs.Ytladdhfkmnhmfaa
open Go.Vi Go.ChangeShapes Go.WideShapes Go.ChangeAt Go.RowKit

namespace AgainRow
theorem contract (H : Type) (enc : TypeId × Value → H) (W : World) (base : Nat) (args : Array Value) (ds gs : List (DataW H)) (before : List MemPlace)
    (hval : ∀ (j : Nat) t v, Try.f5.params[j]? = some t → args[j]? = some v → Value.okWide Try.prog W .any base t v)
    (hW : DataW.Whole enc Try.prog Try.f5.params.toList Rows.lexAgainSpec.vars false W args.toList ds gs before) (hsh : W.ShapedOpen Try.prog) :
    Calls Try.prog 5 args W fun e W' => ∃ v, e = .returned v ∧ Rows.lexAgainSpec.post enc Try.prog Try.f5 false true false false W args v W' := by
  have hW' := hW
  obtain ⟨p, q, hA0, hV, _, _, _⟩ := hW
  have hA : DataW.TrodAll enc Try.prog W 0 (fun _ => true) true Try.f5.params.toList args.toList ds p := hA0
  rw [Try.params5] at hA
  rw [Try.params5] at hval
  obtain ⟨v0, v1, d0, d1, p0, p1, hargs, rfl, rfl, h0, h1⟩ := trodAll_two hA
  subst hargs
  obtain ⟨rfl, rfl⟩ := trodVars_none hV
  obtain ⟨m, hg⟩ := globs hsh
  obtain ⟨t, ht, hlen, rfl⟩ := arg_str Try.underlying9 (hval 0 9 v0 rfl rfl) h0
  obtain ⟨b, hb, _, _⟩ := arg_bytes Try.underlying30 Try.underlying5 (show Try.prog.cellsOf 5 = 1 by kernel_rfl) (hval 1 30 v1 rfl rfl) h1
  refine law_post (tb := 4) laidOut rfl hW' (by kernel_rfl) (by kernel_rfl) Try.underlying4 rfl ?_
  refine law_calls (machOK m W) hg (again_data t b (by simpa [maxLen] using hlen)) rfl (fun i x hx => ?_)
  match i, hx with
  | 0, hx => cases hx; exact ⟨_, rfl, ht⟩
  | 1, hx => cases hx; exact ⟨_, rfl, hb⟩

theorem reads (os : Os) {H : Type} (enc : TypeId × Value → H) : ∃ places, DataW.whole enc Try.prog ((world0 os).forCall (fun _ _ => 0) ⟨#[], #[.string ⟨#[]⟩, .slice none 0 0], []⟩).memory Try.f5.params.toList Rows.lexAgainSpec.vars false (#[.string ⟨#[]⟩, .slice none 0 0] : Array Value).toList 8 = some ([.lit (.string []), .nil], [], places) :=
  ⟨[], by kernel_rfl⟩

theorem lifted (os : Os) (started : os.Started) (H : Type) (enc : TypeId × Value → H) (F : Stop.Interp) :
    ReturnsInHanded {} Try.checked os 5 .any ((OpenSpec.ofChange Rows.lexAgainSpec).preRow enc Try.prog Try.f5 Rows.lexAgainRow.domain false Rows.lexAgainRow.laid) (((OpenSpec.ofChange Rows.lexAgainSpec).at F).post enc Try.prog Try.f5 false true false false) := by
  obtain ⟨places, hx⟩ := reads os enc
  refine returnsInHanded_of_row (C := Try.checked) (s := OpenSpec.ofChange Rows.lexAgainSpec) own started (by kernel_rfl) Try.func5
    (witness_row_at (enc := enc) (C := Try.checked) false (world0 os) #[.string ⟨#[]⟩, .slice none 0 0] rfl (by kernel_rfl) (by kernel_rfl) (by kernel_rfl)
      (OpenSpec.preRow_of_cond 8 hx (by kernel_rfl) (fun k hk => by cases hk) (by kernel_rfl) (laidMet_of_run' 8 (by kernel_rfl) (by kernel_rfl)))) ?_
  intro W base args ds gs before hval hW _ _ _ _ hsh _
  exact contract H enc W base args ds gs before hval hW hsh

theorem said : Rows.LexAgainSaid :=
  OpenClaim.holds_of_cond 5 Try.f5 rfl rfl rfl rfl rfl rfl rfl ⟨rfl, rfl, rfl, rfl, rfl⟩ rfl rfl rfl rfl rfl (by kernel_rfl) Try.func5 (by kernel_rfl)
    (of_decide_eq_true (by kernel_rfl)) (by unfold Func.isWrapper; first | (rw [if_pos (by decide +kernel)]; kernel_rfl) | (rw [if_neg (by decide +kernel)]; exact ⟨rfl, rfl⟩))
    (fun os started H enc _ F => by rw [OpenClaim.pre_eq_preRow]; exact lifted os started H enc F)
end AgainRow
/-- LexAgain's row. -/
theorem lexAgain_holds : Rows.LexAgainSaid := AgainRow.said
#print axioms lexAgain_holds
end Go.Proofs.Ytladdhfkmnhmfaa
