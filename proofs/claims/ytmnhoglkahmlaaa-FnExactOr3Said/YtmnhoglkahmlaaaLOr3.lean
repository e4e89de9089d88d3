/- The law FnExactOr3. -/
import Derived.Test.YtmnhoglkahmlaaaT4
import Derived.Test.YtmnhoglkahmlaaaLV
set_option linter.unusedSimpArgs false
set_option linter.unusedVariables false
set_option linter.unnecessarySimpa false
set_option linter.constructorNameAsVariable false
namespace Go.Proofs.Ytmnhoglkahmlaaa.Ab
open Go Go.ChangeShapes Go.WideShapes Go.ChangeAt Go.RowKit
attribute [local irreducible] Try.prog
theorem lifted7 (os : Os) (started : os.Started) (H : Type) (enc : TypeId × Value → H) :
    ReturnsInHanded {} Try.checked os 7 .any (Rows.fnExactOr3Spec.pre6 enc Try.prog Try.f7 Rows.fnExactOr3Row.domain false) (Rows.fnExactOr3Spec.post enc Try.prog Try.f7 false true false false) := by
  refine law_lifted (tb := 4) own started (by kernel_rfl) Try.func7
    (ChangeSpec.witness6 (enc := enc) (C := Try.checked) false ⟨#[], #[.agg #[.bool false, .int .i64 0], .agg #[.bool false, .int .i64 0]], []⟩ 8 (by kernel_rfl) (by kernel_rfl) (by kernel_rfl) (by kernel_rfl))
    laid (of_decide_eq_true (by kernel_rfl)) Try.underlying4 rfl rfl (fun ds h => ?_) ?_
  · match ds, h with
    | [d0, d1], _ => rfl
  · intro W base args ds p hok hA _ _
    have hA' : DataW.TrodAll enc Try.prog W 0 (fun _ => true) true [24, 24] args.toList ds p := hA
    obtain ⟨v0, v1, d0, d1, p0, p1, rfl, rfl, _, h0, h1⟩ := trodAll_two hA'
    obtain ⟨b0, n0, rfl, hn0⟩ := arg_val24 (hok 0 24 v0 (by rw [Try.params7]; rfl) rfl) h0
    obtain ⟨b1, n1, rfl, hn1⟩ := arg_val24 (hok 1 24 v1 (by rw [Try.params7]; rfl) rfl) h1
    refine law_walk (ok7 b0 n0 b1 n1) rfl fun j v d hv hd => ?_
    match j with
    | 0 => simp at hv hd; subst hv; subst hd; exact rv_val hn0
    | 1 => simp at hv hd; subst hv; subst hd; exact rv_val hn1
    | j + 2 => simp at hv
end Go.Proofs.Ytmnhoglkahmlaaa.Ab
namespace Go.Proofs.Ytmnhoglkahmlaaa
theorem fnExactOr3_holds : Rows.FnExactOr3Said :=
  OpenClaim.holds_of_wide 7 Try.f7 rfl rfl rfl rfl rfl rfl rfl ⟨rfl, rfl, rfl, rfl, rfl⟩ rfl rfl rfl rfl rfl (by kernel_rfl) Try.func7 (by kernel_rfl)
    (of_decide_eq_true (by kernel_rfl)) (by unfold Func.isWrapper; first | (rw [if_pos (by decide +kernel)]; kernel_rfl) | (rw [if_neg (by decide +kernel)]; exact ⟨rfl, rfl⟩))
    (fun os started H enc _ => Ab.lifted7 os started H enc)
end Go.Proofs.Ytmnhoglkahmlaaa
#print axioms Go.Proofs.Ytmnhoglkahmlaaa.fnExactOr3_holds
