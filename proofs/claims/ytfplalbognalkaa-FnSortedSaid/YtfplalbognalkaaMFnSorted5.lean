/- What the laws of values share. -/
import Derived.Test.YtfplalbognalkaaMFnSorted4
import Derived.Test.YtfplalbognalkaaRows
import Derived.Test.YtfplalbognalkaaChecked
set_option linter.unusedSimpArgs false
set_option linter.unusedVariables false
set_option linter.unnecessarySimpa false
set_option linter.constructorNameAsVariable false
namespace Go.Proofs.Ytfplalbognalkaa.Ab
open Go Go.ChangeShapes Go.WideShapes Go.ChangeAt Go.RowKit
attribute [local irreducible] Try.prog
theorem own : ownKnob Try.prog.godebug = none := by kernel_rfl
theorem laid : laidOutB Try.prog = true := by kernel_rfl
theorem cs24 : Try.prog.cellsOf 154 = 2 := by kernel_rfl
theorem cs4 : Try.prog.cellsOf 4 = 1 := by kernel_rfl
theorem cs2 : Try.prog.cellsOf 2 = 1 := by kernel_rfl
theorem arg_val24 {H : Type} {enc : TypeId × Value → H} {w : World} {base b0 : Nat} {sp : Nat → Bool} {held : Bool} {v : Value} {d : DataW H} {ps : List MemPlace} (hv : Value.okWide Try.prog w .any b0 154 v) (h : DataW.Trod enc Try.prog w base sp held 154 v d ps) : ∃ b n, v = .agg #[.bool b, .int .i64 n] ∧ i64 n :=
  arg_val (tb := 4) (ti := 2) Try.underlying154 cs24 ⟨rfl, rfl⟩ ⟨rfl, rfl⟩ Try.underlying4 Try.underlying2 cs4 cs2 hv h
end Go.Proofs.Ytfplalbognalkaa.Ab
/- Shapes of byte slices. -/
namespace Go.Proofs.Ytfplalbognalkaa.Ab
open Go Go.ChangeShapes Go.WideShapes Go.ChangeAt Go.RowKit
attribute [local irreducible] Try.prog
theorem byte_shape {r : List E} (h : WT Try.prog 2 5 r) : ∃ b : UInt8, r = [.v (.int .u8 b.toNat)] := by
  simp only [WT, Try.underlying5] at h
  obtain ⟨m, rfl, h0, h1⟩ := h
  simp [IntKind.min, IntKind.max, IntKind.bits, IntKind.signed] at h0 h1
  refine ⟨UInt8.ofNat m.toNat, ?_⟩
  congr 3
  simp only [UInt8.toNat_ofNat']
  omega
theorem bytes_shape : ∀ {rows : List (List E)}, (∀ r ∈ rows, WT Try.prog 2 5 r ∧ r.length = Try.prog.cellsOf 5) → ∃ l : List UInt8, rows = bytesE l
  | [], _ => ⟨[], rfl⟩
  | r :: rows, h => by
    obtain ⟨p, hp⟩ := byte_shape (h r (by simp)).1
    obtain ⟨l, hl⟩ := bytes_shape (rows := rows) fun q hq => h q (List.mem_cons_of_mem _ hq)
    exact ⟨p :: l, by rw [hp, hl]; rfl⟩
end Go.Proofs.Ytfplalbognalkaa.Ab
