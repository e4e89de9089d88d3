/- Shapes of arguments. -/
import Derived.Test.YtmnhoglkahmlaaaV5
import Derived.Test.YtmnhoglkahmlaaaU7
import Derived.Test.YtmnhoglkahmlaaaAbW
import Derived.Test.YtmnhoglkahmlaaaLV
set_option linter.unusedSimpArgs false
set_option linter.unusedVariables false
set_option linter.unnecessarySimpa false
set_option linter.constructorNameAsVariable false
namespace Go.Proofs.Ytmnhoglkahmlaaa.Ab
open Go Go.ChangeShapes Go.WideShapes Go.ChangeAt Go.RowKit
attribute [local irreducible] Try.prog
theorem cs94 : Try.prog.cellsOf 94 = 2 := by kernel_rfl
theorem cs3 : Try.prog.cellsOf 3 = 1 := by kernel_rfl
theorem op_shape {r : List E} (h : WT Try.prog 2 94 r) : ∃ p, r = orow p := by
  simp only [WT, Try.underlying94] at h
  obtain ⟨hl, hf⟩ := h
  have h0 : WT Try.prog 1 3 ((r.drop 0).take (Try.prog.cellsOf 3)) := hf 0 _ rfl
  have h1 : WT Try.prog 1 2 ((r.drop 1).take (Try.prog.cellsOf 2)) := hf 1 _ rfl
  rw [cs94] at hl
  simp only [WT, cs3, cs2, Try.underlying3, Try.underlying2] at h0 h1
  obtain ⟨b, h0, _⟩ := h0
  obtain ⟨m, h1, _⟩ := h1
  match r, hl with
  | [x, y], _ =>
    simp at h0 h1
    exact ⟨(b, m), by rw [h0, h1]⟩
theorem ops_shape : ∀ {rows : List (List E)}, (∀ r ∈ rows, WT Try.prog 2 94 r ∧ r.length = Try.prog.cellsOf 94) → ∃ l : List (Int × Int), rows = l.map orow
  | [], _ => ⟨[], rfl⟩
  | r :: rows, h => by
    obtain ⟨p, hp⟩ := op_shape (h r (by simp)).1
    obtain ⟨l, hl⟩ := ops_shape (rows := rows) fun q hq => h q (List.mem_cons_of_mem _ hq)
    exact ⟨p :: l, by rw [hp, hl]; rfl⟩
theorem row_shape {r : List E} (h : WT Try.prog 2 24 r) : ∃ p, r = vr p := by
  simp only [WT, Try.underlying24] at h
  obtain ⟨hl, hf⟩ := h
  have h0 : WT Try.prog 1 4 ((r.drop 0).take (Try.prog.cellsOf 4)) := hf 0 _ rfl
  have h1 : WT Try.prog 1 2 ((r.drop 1).take (Try.prog.cellsOf 2)) := hf 1 _ rfl
  rw [cs24] at hl
  simp only [WT, cs4, cs2, Try.underlying4, Try.underlying2] at h0 h1
  obtain ⟨b, h0⟩ := h0
  obtain ⟨m, h1, _⟩ := h1
  match r, hl with
  | [x, y], _ =>
    simp at h0 h1
    exact ⟨(b, m), by rw [h0, h1]⟩
theorem rows_shape : ∀ {rows : List (List E)}, (∀ r ∈ rows, WT Try.prog 2 24 r ∧ r.length = Try.prog.cellsOf 24) → ∃ l : List (Bool × Int), rows = l.map vr
  | [], _ => ⟨[], rfl⟩
  | r :: rows, h => by
    obtain ⟨p, hp⟩ := row_shape (h r (by simp)).1
    obtain ⟨l, hl⟩ := rows_shape (rows := rows) fun q hq => h q (List.mem_cons_of_mem _ hq)
    exact ⟨p :: l, by rw [hp, hl]; rfl⟩
end Go.Proofs.Ytmnhoglkahmlaaa.Ab
