/- The law FnSorted: it returns true for every input, without a further condition. -/
import Derived.Test.YtfplalbognalkaaMFnSorted5
set_option linter.unusedSimpArgs false
set_option linter.unusedVariables false
set_option linter.unnecessarySimpa false
set_option linter.constructorNameAsVariable false
namespace Go.Proofs.Ytfplalbognalkaa.Ab
open Go Go.ChangeShapes Go.WideShapes Go.ChangeAt Go.RowKit
attribute [local irreducible] Try.prog
theorem lifted12 (os : Os) (started : os.Started) (H : Type) (enc : TypeId × Value → H) :
    ReturnsInHanded {} Try.checked os 3 .any (Rows.fnSortedSpec.pre6 enc Try.prog Try.f3 Rows.fnSortedRow.domain false) (Rows.fnSortedSpec.post enc Try.prog Try.f3 false true false false) := by
  refine law_lifted (tb := 4) own started (by kernel_rfl) Try.func3
    (ChangeSpec.witness6 (enc := enc) (C := Try.checked) false ⟨#[], #[.slice none 0 0], []⟩ 8 (by kernel_rfl) (by kernel_rfl) (by kernel_rfl) (by kernel_rfl))
    laid (of_decide_eq_true (by kernel_rfl)) Try.underlying4 rfl rfl (fun ds h => ?_) ?_
  · match ds, h with
    | [d0], _ => rfl
  · intro W base args ds p hok hA _ hz
    have hA' : DataW.TrodAll enc Try.prog W 0 (fun _ => true) true [22] args.toList ds p := hA
    obtain ⟨v0, d0, rfl, rfl, h0⟩ := trodAll_one hA'
    have hz' : ∀ k ∈ DataW.weightsEach Try.prog [22] [d0], k ≤ reachBytes := by
      have := hz
      simp only [List.all_eq_true, decide_eq_true_eq] at this
      exact this
    obtain ⟨r0, a0, w0⟩ := arg_sl (n := 2) Try.underlying22 (by kernel_rfl) (hok 0 22 v0 (by rw [Try.params3]; rfl) rfl) h0 fun k hk => hz' k (weightsEach_get (i := 0) rfl rfl k hk)
    obtain ⟨l0, e0⟩ := bytes_shape w0
    refine law_walk (ok3 r0 ⟨l0, e0⟩) rfl fun j v d hv hd => ?_
    match j with
    | 0 => simp at hv hd; subst hv; subst hd; exact a0
    | j + 1 => simp at hv
end Go.Proofs.Ytfplalbognalkaa.Ab
namespace Go.Proofs.Ytfplalbognalkaa
theorem fnSorted_holds : Rows.FnSortedSaid :=
  OpenClaim.holds_of_wide 3 Try.f3 rfl rfl rfl rfl rfl rfl rfl ⟨rfl, rfl, rfl, rfl, rfl⟩ rfl rfl rfl rfl rfl (by kernel_rfl) Try.func3 (by kernel_rfl)
    (of_decide_eq_true (by kernel_rfl)) (by unfold Func.isWrapper; first | (rw [if_pos (by decide +kernel)]; kernel_rfl) | (rw [if_neg (by decide +kernel)]; exact ⟨rfl, rfl⟩))
    (fun os started H enc _ => Ab.lifted12 os started H enc)
end Go.Proofs.Ytfplalbognalkaa
#print axioms Go.Proofs.Ytfplalbognalkaa.fnSorted_holds
