/- What the laws of values share. -/
import Derived.Test.YtmnhoglkahmlaaaAbV
import Derived.Test.YtmnhoglkahmlaaaRows
import Derived.Test.YtmnhoglkahmlaaaChecked
set_option linter.unusedSimpArgs false
set_option linter.unusedVariables false
set_option linter.unnecessarySimpa false
set_option linter.constructorNameAsVariable false
namespace Go.Proofs.Ytmnhoglkahmlaaa.Ab
open Go Go.ChangeShapes Go.WideShapes Go.ChangeAt Go.RowKit
attribute [local irreducible] Try.prog
theorem own : ownKnob Try.prog.godebug = none := by kernel_rfl
theorem laid : laidOutB Try.prog = true := by kernel_rfl
theorem cs24 : Try.prog.cellsOf 24 = 2 := by kernel_rfl
theorem cs4 : Try.prog.cellsOf 4 = 1 := by kernel_rfl
theorem cs2 : Try.prog.cellsOf 2 = 1 := by kernel_rfl
theorem arg_val24 {H : Type} {enc : TypeId × Value → H} {w : World} {base b0 : Nat} {sp : Nat → Bool} {held : Bool} {v : Value} {d : DataW H} {ps : List MemPlace} (hv : Value.okWide Try.prog w .any b0 24 v) (h : DataW.Trod enc Try.prog w base sp held 24 v d ps) : ∃ b n, v = .agg #[.bool b, .int .i64 n] ∧ i64 n :=
  arg_val (tb := 4) (ti := 2) Try.underlying24 cs24 ⟨rfl, rfl⟩ ⟨rfl, rfl⟩ Try.underlying4 Try.underlying2 cs4 cs2 hv h

end Go.Proofs.Ytmnhoglkahmlaaa.Ab
