/- The law FnExactCmp3. -/
import Derived.Test.YtmnhoglkahmlaaaT6
import Derived.Test.YtmnhoglkahmlaaaLV
set_option linter.unusedSimpArgs false
set_option linter.unusedVariables false
set_option linter.unnecessarySimpa false
set_option linter.constructorNameAsVariable false
namespace Go.Proofs.Ytmnhoglkahmlaaa.Ab
open Go Go.ChangeShapes Go.WideShapes Go.ChangeAt Go.RowKit
attribute [local irreducible] Try.prog
theorem lifted5 (os : Os) (started : os.Started) (H : Type) (enc : TypeId × Value → H) :
    ReturnsInHanded {} Try.checked os 5 .any (Rows.fnExactCmp3Spec.pre6 enc Try.prog Try.f5 Rows.fnExactCmp3Row.domain false) (Rows.fnExactCmp3Spec.post enc Try.prog Try.f5 false true false false) := by
  refine law_lifted (tb := 4) own started (by kernel_rfl) Try.func5
    (ChangeSpec.witness6 (enc := enc) (C := Try.checked) false ⟨#[], #[.int .i64 0, .agg #[.bool false, .int .i64 0], .agg #[.bool false, .int .i64 0]], []⟩ 8 (by kernel_rfl) (by kernel_rfl) (by kernel_rfl) (by kernel_rfl))
    laid (of_decide_eq_true (by kernel_rfl)) Try.underlying4 rfl rfl (fun ds h => ?_) ?_
  · match ds, h with
    | [d0, d1, d2], _ => rfl
  · intro W base args ds p hok hA _ _
    have hA' : DataW.TrodAll enc Try.prog W 0 (fun _ => true) true [3, 24, 24] args.toList ds p := hA
    obtain ⟨v0, v1, v2, d0, d1, d2, p0, p1, p2, rfl, rfl, _, h0, h1, h2⟩ := trodAll_three hA'
    obtain ⟨n0, rfl, hn0⟩ := arg_int Try.underlying3 (hok 0 3 v0 (by rw [Try.params5]; rfl) rfl) h0
    obtain ⟨b1, n1, rfl, hn1⟩ := arg_val24 (hok 1 24 v1 (by rw [Try.params5]; rfl) rfl) h1
    obtain ⟨b2, n2, rfl, hn2⟩ := arg_val24 (hok 2 24 v2 (by rw [Try.params5]; rfl) rfl) h2
    refine law_walk (ok5 n0 b1 n1 b2 n2) rfl fun j v d hv hd => ?_
    match j with
    | 0 => simp at hv hd; subst hv; subst hd; exact rv_i64 hn0
    | 1 => simp at hv hd; subst hv; subst hd; exact rv_val hn1
    | 2 => simp at hv hd; subst hv; subst hd; exact rv_val hn2
    | j + 3 => simp at hv
end Go.Proofs.Ytmnhoglkahmlaaa.Ab
namespace Go.Proofs.Ytmnhoglkahmlaaa
theorem fnExactCmp3_holds : Rows.FnExactCmp3Said :=
  OpenClaim.holds_of_wide 5 Try.f5 rfl rfl rfl rfl rfl rfl rfl ⟨rfl, rfl, rfl, rfl, rfl⟩ rfl rfl rfl rfl rfl (by kernel_rfl) Try.func5 (by kernel_rfl)
    (of_decide_eq_true (by kernel_rfl)) (by unfold Func.isWrapper; first | (rw [if_pos (by decide +kernel)]; kernel_rfl) | (rw [if_neg (by decide +kernel)]; exact ⟨rfl, rfl⟩))
    (fun os started H enc _ => Ab.lifted5 os started H enc)
end Go.Proofs.Ytmnhoglkahmlaaa
#print axioms Go.Proofs.Ytmnhoglkahmlaaa.fnExactCmp3_holds
