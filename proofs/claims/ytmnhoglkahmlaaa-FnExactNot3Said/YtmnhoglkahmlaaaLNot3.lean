/- The law FnExactNot3. -/
import Derived.Test.YtmnhoglkahmlaaaT2
import Derived.Test.YtmnhoglkahmlaaaAbV
namespace Go.Proofs.Ytmnhoglkahmlaaa.Ab
open Go Go.ChangeShapes Go.WideShapes Go.ChangeAt Go.RowKit
attribute [local irreducible] Try.prog
theorem own : ownKnob Try.prog.godebug = none := by kernel_rfl
theorem laid : laidOutB Try.prog = true := by kernel_rfl
theorem cs24 : Try.prog.cellsOf 24 = 2 := by kernel_rfl
theorem cs4 : Try.prog.cellsOf 4 = 1 := by kernel_rfl
theorem cs2 : Try.prog.cellsOf 2 = 1 := by kernel_rfl
theorem arg_val24 {H : Type} {enc : TypeId × Value → H} {w : World} {base b0 : Nat} {sp : Nat → Bool} {held : Bool} {v : Value} {d : DataW H} {ps : List MemPlace} (hv : Value.okWide Try.prog w .any b0 24 v) (h : DataW.Trod enc Try.prog w base sp held 24 v d ps) : ∃ b n, v = .agg #[.bool b, .int .i64 n] ∧ i64 n :=
  arg_val (tb := 4) (ti := 2) Try.underlying24 cs24 ⟨rfl, rfl⟩ ⟨rfl, rfl⟩ Try.underlying4 Try.underlying2 cs4 cs2 hv h

theorem not3_lifted (os : Os) (started : os.Started) (H : Type) (enc : TypeId × Value → H) :
    ReturnsInHanded {} Try.checked os 4 .any (Rows.fnExactNot3Spec.pre6 enc Try.prog Try.f4 Rows.fnExactNot3Row.domain false) (Rows.fnExactNot3Spec.post enc Try.prog Try.f4 false true false false) := by
  refine law_lifted (tb := 4) own started (by kernel_rfl) Try.func4
    (ChangeSpec.witness6 (enc := enc) (C := Try.checked) false ⟨#[], #[.agg #[.bool false, .int .i64 0]], []⟩ 8 (by kernel_rfl) (by kernel_rfl) (by kernel_rfl) (by kernel_rfl))
    laid (of_decide_eq_true (by kernel_rfl)) Try.underlying4 rfl rfl (fun ds h => ?_) ?_
  · match ds, h with
    | [d], _ => rfl
  · intro W base args ds p hok hA _ _
    have hA' : DataW.TrodAll enc Try.prog W 0 (fun _ => true) true [24] args.toList ds p := hA
    obtain ⟨v, d, rfl, rfl, h⟩ := trodAll_one hA'
    obtain ⟨b, n, rfl, hn⟩ := arg_val24 (hok 0 24 v (by rw [Try.params4]; rfl) rfl) h
    refine law_walk (ok4 b n) rfl fun j v d hv hd => ?_
    match j with
    | 0 => simp at hv hd; subst hv; subst hd; exact rv_val hn
    | j + 1 => simp at hv

theorem not3_holds : Rows.FnExactNot3Said :=
  OpenClaim.holds_of_wide 4 Try.f4 rfl rfl rfl rfl rfl rfl rfl ⟨rfl, rfl, rfl, rfl, rfl⟩ rfl rfl rfl rfl rfl (by kernel_rfl) Try.func4 (by kernel_rfl)
    (of_decide_eq_true (by kernel_rfl)) (by unfold Func.isWrapper; first | (rw [if_pos (by decide +kernel)]; kernel_rfl) | (rw [if_neg (by decide +kernel)]; exact ⟨rfl, rfl⟩))
    (fun os started H enc _ => not3_lifted os started H enc)
end Go.Proofs.Ytmnhoglkahmlaaa.Ab
namespace Go.Proofs.Ytmnhoglkahmlaaa
theorem fnExactNot3_holds : Rows.FnExactNot3Said := Ab.not3_holds
end Go.Proofs.Ytmnhoglkahmlaaa
#print axioms Go.Proofs.Ytmnhoglkahmlaaa.fnExactNot3_holds
