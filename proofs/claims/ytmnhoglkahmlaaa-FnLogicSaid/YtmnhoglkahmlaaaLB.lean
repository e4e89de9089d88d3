/- Shapes of byte slices. -/
import Derived.Test.YtmnhoglkahmlaaaAbW
import Derived.Test.YtmnhoglkahmlaaaLV
set_option linter.unusedSimpArgs false
set_option linter.unusedVariables false
set_option linter.unnecessarySimpa false
set_option linter.constructorNameAsVariable false
namespace Go.Proofs.Ytmnhoglkahmlaaa.Ab
open Go Go.ChangeShapes Go.WideShapes Go.ChangeAt Go.RowKit
attribute [local irreducible] Try.prog
theorem byte_shape {r : List E} (h : WT Try.prog 2 5 r) : ∃ b : UInt8, r = [.v (.int .u8 b.toNat)] := by
  simp only [WT, Try.underlying5] at h
  obtain ⟨m, rfl, h0, h1⟩ := h
  simp [IntKind.min, IntKind.max, IntKind.bits, IntKind.signed] at h0 h1
  refine ⟨UInt8.ofNat m.toNat, ?_⟩
  congr 3
  simp only [UInt8.toNat_ofNat']
  omega
theorem bytes_shape : ∀ {rows : List (List E)}, (∀ r ∈ rows, WT Try.prog 2 5 r ∧ r.length = Try.prog.cellsOf 5) → ∃ l : List UInt8, rows = bytesE l
  | [], _ => ⟨[], rfl⟩
  | r :: rows, h => by
    obtain ⟨p, hp⟩ := byte_shape (h r (by simp)).1
    obtain ⟨l, hl⟩ := bytes_shape (rows := rows) fun q hq => h q (List.mem_cons_of_mem _ hq)
    exact ⟨p :: l, by rw [hp, hl]; rfl⟩
end Go.Proofs.Ytmnhoglkahmlaaa.Ab
