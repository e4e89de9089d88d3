/- The law FnLogic. -/
import Derived.Test.YtmnhoglkahmlaaaD5
import Derived.Test.YtmnhoglkahmlaaaLB
set_option linter.unusedSimpArgs false
set_option linter.unusedVariables false
set_option linter.unnecessarySimpa false
set_option linter.constructorNameAsVariable false
namespace Go.Proofs.Ytmnhoglkahmlaaa.Ab
open Go Go.ChangeShapes Go.WideShapes Go.ChangeAt Go.RowKit
attribute [local irreducible] Try.prog
theorem lifted14 (os : Os) (started : os.Started) (H : Type) (enc : TypeId × Value → H) :
    ReturnsInHanded {} Try.checked os 14 .any (Rows.fnLogicSpec.pre6 enc Try.prog Try.f14 Rows.fnLogicRow.domain false) (Rows.fnLogicSpec.post enc Try.prog Try.f14 false true false false) := by
  refine law_lifted (tb := 4) own started (by kernel_rfl) Try.func14
    (ChangeSpec.witness6 (enc := enc) (C := Try.checked) false ⟨#[], #[.slice none 0 0, .slice none 0 0], []⟩ 8 (by kernel_rfl) (by kernel_rfl) (by kernel_rfl) (by kernel_rfl))
    laid (of_decide_eq_true (by kernel_rfl)) Try.underlying4 rfl rfl (fun ds h => ?_) ?_
  · match ds, h with
    | [d0, d1], _ => rfl
  · intro W base args ds p hok hA _ hz
    have hA' : DataW.TrodAll enc Try.prog W 0 (fun _ => true) true [62, 62] args.toList ds p := hA
    obtain ⟨v0, v1, d0, d1, p0, p1, rfl, rfl, _, h0, h1⟩ := trodAll_two hA'
    have hz' : ∀ k ∈ DataW.weightsEach Try.prog [62, 62] [d0, d1], k ≤ reachBytes := by
      have := hz
      simp only [List.all_eq_true, decide_eq_true_eq] at this
      exact this
    obtain ⟨r0, a0, w0⟩ := arg_sl (n := 2) Try.underlying62 (by kernel_rfl) (hok 0 62 v0 (by rw [Try.params14]; rfl) rfl) h0 fun k hk => hz' k (weightsEach_get (i := 0) rfl rfl k hk)
    obtain ⟨r1, a1, w1⟩ := arg_sl (n := 2) Try.underlying62 (by kernel_rfl) (hok 1 62 v1 (by rw [Try.params14]; rfl) rfl) h1 fun k hk => hz' k (weightsEach_get (i := 1) rfl rfl k hk)
    obtain ⟨l1, e1⟩ := bytes_shape w1
    obtain ⟨l0, e0⟩ := bytes_shape w0
    refine law_walk (ok14 r0 r1 ⟨l0, e0⟩ ⟨l1, e1⟩) rfl fun j v d hv hd => ?_
    match j with
    | 0 => simp at hv hd; subst hv; subst hd; exact a0
    | 1 => simp at hv hd; subst hv; subst hd; exact a1
    | j + 2 => simp at hv
end Go.Proofs.Ytmnhoglkahmlaaa.Ab
namespace Go.Proofs.Ytmnhoglkahmlaaa
theorem fnLogic_holds : Rows.FnLogicSaid :=
  OpenClaim.holds_of_wide 14 Try.f14 rfl rfl rfl rfl rfl rfl rfl ⟨rfl, rfl, rfl, rfl, rfl⟩ rfl rfl rfl rfl rfl (by kernel_rfl) Try.func14 (by kernel_rfl)
    (of_decide_eq_true (by kernel_rfl)) (by unfold Func.isWrapper; first | (rw [if_pos (by decide +kernel)]; kernel_rfl) | (rw [if_neg (by decide +kernel)]; exact ⟨rfl, rfl⟩))
    (fun os started H enc _ => Ab.lifted14 os started H enc)
end Go.Proofs.Ytmnhoglkahmlaaa
#print axioms Go.Proofs.Ytmnhoglkahmlaaa.fnLogic_holds
