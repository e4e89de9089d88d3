/- The law FnExactEvalEx. -/
import Derived.Test.YtmnhoglkahmlaaaW5
import Derived.Test.YtmnhoglkahmlaaaLS
set_option linter.unusedSimpArgs false
set_option linter.unusedVariables false
set_option linter.unnecessarySimpa false
set_option linter.constructorNameAsVariable false
namespace Go.Proofs.Ytmnhoglkahmlaaa.Ab
open Go Go.ChangeShapes Go.WideShapes Go.ChangeAt Go.RowKit
attribute [local irreducible] Try.prog
theorem lifted11 (os : Os) (started : os.Started) (H : Type) (enc : TypeId × Value → H) :
    ReturnsInHanded {} Try.checked os 11 .any (Rows.fnExactEvalExSpec.pre6 enc Try.prog Try.f11 Rows.fnExactEvalExRow.domain false) (Rows.fnExactEvalExSpec.post enc Try.prog Try.f11 false true false false) := by
  refine law_lifted (tb := 4) own started (by kernel_rfl) Try.func11
    (ChangeSpec.witness6 (enc := enc) (C := Try.checked) false ⟨#[], #[.slice none 0 0, .slice none 0 0], []⟩ 8 (by kernel_rfl) (by kernel_rfl) (by kernel_rfl) (by kernel_rfl))
    laid (of_decide_eq_true (by kernel_rfl)) Try.underlying4 rfl rfl (fun ds h => ?_) ?_
  · match ds, h with
    | [d0, d1], _ => rfl
  · intro W base args ds p hok hA _ hz
    have hA' : DataW.TrodAll enc Try.prog W 0 (fun _ => true) true [41, 34] args.toList ds p := hA
    obtain ⟨v0, v1, d0, d1, p0, p1, rfl, rfl, _, h0, h1⟩ := trodAll_two hA'
    have hz' : ∀ k ∈ DataW.weightsEach Try.prog [41, 34] [d0, d1], k ≤ reachBytes := by
      have := hz
      simp only [List.all_eq_true, decide_eq_true_eq] at this
      exact this
    obtain ⟨r0, a0, w0⟩ := arg_sl (n := 2) Try.underlying41 (by kernel_rfl) (hok 0 41 v0 (by rw [Try.params11]; rfl) rfl) h0 fun k hk => hz' k (weightsEach_get (i := 0) rfl rfl k hk)
    obtain ⟨r1, a1, w1⟩ := arg_sl (n := 2) Try.underlying34 (by kernel_rfl) (hok 1 34 v1 (by rw [Try.params11]; rfl) rfl) h1 fun k hk => hz' k (weightsEach_get (i := 1) rfl rfl k hk)
    obtain ⟨l1, e1⟩ := rows_shape w1
    obtain ⟨l0, e0⟩ := ops_shape w0
    refine law_walk (ok11 l0 l1 r0 r1 e0 e1) rfl fun j v d hv hd => ?_
    match j with
    | 0 => simp at hv hd; subst hv; subst hd; exact a0
    | 1 => simp at hv hd; subst hv; subst hd; exact a1
    | j + 2 => simp at hv
end Go.Proofs.Ytmnhoglkahmlaaa.Ab
namespace Go.Proofs.Ytmnhoglkahmlaaa
theorem fnExactEvalEx_holds : Rows.FnExactEvalExSaid :=
  OpenClaim.holds_of_wide 11 Try.f11 rfl rfl rfl rfl rfl rfl rfl ⟨rfl, rfl, rfl, rfl, rfl⟩ rfl rfl rfl rfl rfl (by kernel_rfl) Try.func11 (by kernel_rfl)
    (of_decide_eq_true (by kernel_rfl)) (by unfold Func.isWrapper; first | (rw [if_pos (by decide +kernel)]; kernel_rfl) | (rw [if_neg (by decide +kernel)]; exact ⟨rfl, rfl⟩))
    (fun os started H enc _ => Ab.lifted11 os started H enc)
end Go.Proofs.Ytmnhoglkahmlaaa
#print axioms Go.Proofs.Ytmnhoglkahmlaaa.fnExactEvalEx_holds
