/- Arguments of the law's types, in the abstract view. -/
import Derived.Test.YtmnhoglkahmlaaaAbL
set_option linter.unusedSimpArgs false
set_option linter.unusedVariables false
set_option linter.unnecessarySimpa false
set_option linter.constructorNameAsVariable false
namespace Go.Proofs.Ytmnhoglkahmlaaa.Ab
open Go Go.ChangeShapes Go.WideShapes Go.ChangeAt Go.RowKit
abbrev dVal (b : Bool) (v : Int) : D := .agg [.bool b, .int v]
def i64 (n : Int) : Prop := -9223372036854775808 ≤ n ∧ n ≤ 9223372036854775807

section
variable {H : Type} {enc : TypeId × Value → H} {P : Program} {w : World} {base b0 : Nat} {sp : Nat → Bool} {held : Bool}
theorem wf_i64 {n : Int} (h : (Lit.int .i64 n).wf = true) : i64 n := by
  simp [Lit.wf, IntKind.min, IntKind.max, IntKind.bits, IntKind.signed] at h
  simp only [i64]; omega

theorem arg_int {t : TypeId} {v : Value} {d : DataW H} {ps : List MemPlace} (ht : P.underlying t = some (.int .i64)) (hv : Value.okWide P w .any b0 t v) (h : DataW.Trod enc P w base sp held t v d ps) :
    ∃ n, v = .int .i64 n ∧ i64 n := by
  obtain ⟨n, rfl, _, _, hw⟩ := open_int ht hv h
  exact ⟨n, rfl, wf_i64 hw⟩

theorem arg_val {t tb ti : TypeId} {f0 f1 : Field} {v : Value} {d : DataW H} {ps : List MemPlace} (ht : P.underlying t = some (.struct #[f0, f1])) (hc : P.cellsOf t = 2) (h0 : f0.type = tb ∧ f0.offset = 0) (h1 : f1.type = ti ∧ f1.offset = 1)
    (hb : P.underlying tb = some .bool) (hi : P.underlying ti = some (.int .i64)) (hcb : P.cellsOf tb = 1) (hci : P.cellsOf ti = 1)
    (hv : Value.okWide P w .any b0 t v) (h : DataW.Trod enc P w base sp held t v d ps) : ∃ b n, v = .agg #[.bool b, .int .i64 n] ∧ i64 n := by
  obtain ⟨cs, rfl, hs⟩ := okWide_struct ht hv
  obtain ⟨fuel, hf⟩ := h
  obtain ⟨y0, y1, n, _, hl, e0, e1⟩ := trod_struct2 ht hf
  simp only [Value.cells, h0.1, h0.2, h1.1, h1.2, hcb, hci] at e0 e1
  obtain ⟨b, e2, _⟩ := DataW.trod_bool hb e0
  obtain ⟨m, e3, _, hw⟩ := DataW.trod_int hi e1
  refine ⟨b, m, ?_, wf_i64 hw⟩
  rw [hc] at hs
  have hcs : cs.toList = [.bool b, .int .i64 m] := by
    match hq : cs.toList with
    | [x, y] =>
      rw [hq] at e2 e3
      simp at e2 e3
      rw [e2, e3]
    | [] => have := congrArg List.length hq; simp [hs] at this
    | [_] => have := congrArg List.length hq; simp [hs] at this
    | _ :: _ :: _ :: _ => have := congrArg List.length hq; simp [hs] at this
  congr 1
  exact Array.ext' (by simpa using hcs)

theorem rv_val {G : Gh} {h : Hp} {b : Bool} {n : Int} (hn : i64 n) : Rv w G h (.agg #[.bool b, .int .i64 n]) (dVal b n) := by
  refine .agg rfl (fun j c hc => ?_) (fun j c d hc hd => ?_)
  · match j with
    | 0 => simp at hc; subst hc; rfl
    | 1 => simp at hc; subst hc; rfl
    | j + 2 => simp at hc
  · match j with
    | 0 => simp at hc hd; subst hc; subst hd; exact .e (.v rfl)
    | 1 =>
      simp at hc hd; subst hc; subst hd
      exact .e (.v (by simpa [okV, IntKind.min, IntKind.max, IntKind.bits, IntKind.signed, i64] using hn))
    | j + 2 => simp at hc

theorem rv_i64 {G : Gh} {h : Hp} {n : Int} (hn : i64 n) : Rv w G h (.int .i64 n) (.int n) :=
  .e (.v (by simpa [okV, IntKind.min, IntKind.max, IntKind.bits, IntKind.signed, i64] using hn))
end
end Go.Proofs.Ytmnhoglkahmlaaa.Ab
