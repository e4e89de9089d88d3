/- The law FnExactSortRows: it returns true for every input, without a further condition. -/
import Derived.Test.YtfplalbognalkaaMFnExactSortRows7
set_option linter.unusedSimpArgs false
set_option linter.unusedVariables false
set_option linter.unnecessarySimpa false
set_option linter.constructorNameAsVariable false
namespace Go.Proofs.Ytfplalbognalkaa.Ab
open Go Go.ChangeShapes Go.WideShapes Go.ChangeAt Go.RowKit
attribute [local irreducible] Try.prog
theorem lifted13 (os : Os) (started : os.Started) (H : Type) (enc : TypeId × Value → H) :
    ReturnsInHanded {} Try.checked os 4 .any (Rows.fnExactSortRowsSpec.pre6 enc Try.prog Try.f4 Rows.fnExactSortRowsRow.domain false) (Rows.fnExactSortRowsSpec.post enc Try.prog Try.f4 false true false false) := by
  refine law_lifted (tb := 4) own started (by kernel_rfl) Try.func4
    (ChangeSpec.witness6 (enc := enc) (C := Try.checked) false ⟨#[], #[.slice none 0 0], []⟩ 8 (by kernel_rfl) (by kernel_rfl) (by kernel_rfl) (by kernel_rfl))
    laid (of_decide_eq_true (by kernel_rfl)) Try.underlying4 rfl rfl (fun ds h => ?_) ?_
  · match ds, h with
    | [d0], _ => rfl
  · intro W base args ds p hok hA _ hz
    have hA' : DataW.TrodAll enc Try.prog W 0 (fun _ => true) true [31] args.toList ds p := hA
    obtain ⟨v0, d0, rfl, rfl, h0⟩ := trodAll_one hA'
    have hz' : ∀ k ∈ DataW.weightsEach Try.prog [31] [d0], k ≤ reachBytes := by
      have := hz
      simp only [List.all_eq_true, decide_eq_true_eq] at this
      exact this
    obtain ⟨r0, a0, w0⟩ := arg_sl (n := 3) Try.underlying31 (by kernel_rfl) (hok 0 31 v0 (by rw [Try.params4]; rfl) rfl) h0 fun k hk => hz' k (weightsEach_get (i := 0) rfl rfl k hk)
    obtain ⟨l0, e0⟩ := srows_shape w0
    refine law_walk (NS.ok4 l0 r0 e0) rfl fun j v d hv hd => ?_
    match j with
    | 0 => simp at hv hd; subst hv; subst hd; exact a0
    | j + 1 => simp at hv
end Go.Proofs.Ytfplalbognalkaa.Ab
namespace Go.Proofs.Ytfplalbognalkaa
theorem fnExactSortRows_holds : Rows.FnExactSortRowsSaid :=
  OpenClaim.holds_of_wide 4 Try.f4 rfl rfl rfl rfl rfl rfl rfl ⟨rfl, rfl, rfl, rfl, rfl⟩ rfl rfl rfl rfl rfl (by kernel_rfl) Try.func4 (by kernel_rfl)
    (of_decide_eq_true (by kernel_rfl)) (by unfold Func.isWrapper; first | (rw [if_pos (by decide +kernel)]; kernel_rfl) | (rw [if_neg (by decide +kernel)]; exact ⟨rfl, rfl⟩))
    (fun os started H enc _ => Ab.lifted13 os started H enc)
end Go.Proofs.Ytfplalbognalkaa
#print axioms Go.Proofs.Ytfplalbognalkaa.fnExactSortRows_holds
