/- The law FnExactDbOk. -/
import Derived.Test.YtmnhoglkahmlaaaX7
import Derived.Test.YtmnhoglkahmlaaaLS
import Derived.Test.YtmnhoglkahmlaaaAbY
set_option linter.unusedSimpArgs false
set_option linter.unusedVariables false
set_option linter.unnecessarySimpa false
set_option linter.constructorNameAsVariable false
namespace Go.Proofs.Ytmnhoglkahmlaaa.Ab
open Go Go.ChangeShapes Go.WideShapes Go.ChangeAt Go.RowKit
attribute [local irreducible] Try.prog
theorem cs34 : Try.prog.cellsOf 34 = 1 := by kernel_rfl
theorem cs9 : Try.prog.cellsOf 9 = 1 := by kernel_rfl
theorem cs3' : Try.prog.cellsOf 3 = 1 := by kernel_rfl
theorem cs69 : Try.prog.cellsOf 69 = 1 := by kernel_rfl
theorem cs120 : Try.prog.cellsOf 120 = 3 := by kernel_rfl
theorem cs50 : Try.prog.cellsOf 50 = 1 := by kernel_rfl
theorem cs121 : Try.prog.cellsOf 121 = 1 := by kernel_rfl
theorem srow_shape {r : List E} (h : WT Try.prog 3 34 r) (hl : r.length = Try.prog.cellsOf 34) : ∃ p, r = rsr p := by
  simp only [WT, Try.underlying34] at h
  obtain ⟨rows, rfl, _, h⟩ := h
  obtain ⟨l, rfl⟩ := rows_shape h
  exact ⟨l, rfl⟩
theorem srows_shape : ∀ {rows : List (List E)}, (∀ r ∈ rows, WT Try.prog 3 34 r ∧ r.length = Try.prog.cellsOf 34) → ∃ l : List (List (Bool × Int)), rows = l.map rsr
  | [], _ => ⟨[], rfl⟩
  | r :: rows, h => by
    obtain ⟨p, hp⟩ := srow_shape (h r (by simp)).1 (h r (by simp)).2
    obtain ⟨l, hl⟩ := srows_shape (rows := rows) fun q hq => h q (List.mem_cons_of_mem _ hq)
    exact ⟨p :: l, by rw [hp, hl]; rfl⟩
theorem tab_shape {r : List E} (h : WT Try.prog 5 120 r) : ∃ p, r = tbr p := by
  simp only [WT, Try.underlying120] at h
  obtain ⟨hl, hf⟩ := h
  have h0 : WT Try.prog 4 9 ((r.drop 0).take (Try.prog.cellsOf 9)) := hf 0 _ rfl
  have h1 : WT Try.prog 4 3 ((r.drop 1).take (Try.prog.cellsOf 3)) := hf 1 _ rfl
  have h2 : WT Try.prog 4 69 ((r.drop 2).take (Try.prog.cellsOf 69)) := hf 2 _ rfl
  rw [cs120] at hl
  simp only [WT, cs9, cs3', cs69, Try.underlying9, Try.underlying3, Try.underlying69] at h0 h1 h2
  obtain ⟨s, h0, _⟩ := h0
  obtain ⟨m, h1, _⟩ := h1
  obtain ⟨rows, h2, _, h3⟩ := h2
  obtain ⟨l, rfl⟩ := srows_shape h3
  match r, hl with
  | [x, y, z], _ =>
    simp at h0 h1 h2
    exact ⟨(s.data.toList, m, l), by rw [h0, h1, h2]⟩
theorem tabs_shape : ∀ {rows : List (List E)}, (∀ r ∈ rows, WT Try.prog 5 120 r ∧ r.length = Try.prog.cellsOf 120) → ∃ l : List Tb, rows = l.map tbr
  | [], _ => ⟨[], rfl⟩
  | r :: rows, h => by
    obtain ⟨p, hp⟩ := tab_shape (h r (by simp)).1
    obtain ⟨l, hl⟩ := tabs_shape (rows := rows) fun q hq => h q (List.mem_cons_of_mem _ hq)
    exact ⟨p :: l, by rw [hp, hl]; rfl⟩
theorem db_shape {r : List E} (h : WT Try.prog 7 50 r) : ∃ l : List Tb, r = [.sl (l.map tbr)] := by
  simp only [WT, Try.underlying50] at h
  obtain ⟨hl, hf⟩ := h
  have h0 : WT Try.prog 6 48 ((r.drop 0).take (Try.prog.cellsOf 48)) := hf 0 _ rfl
  rw [cs50] at hl
  simp only [WT, Try.underlying48] at h0
  obtain ⟨rows, h0, _, h3⟩ := h0
  obtain ⟨l, rfl⟩ := tabs_shape h3
  match r, hl with
  | [x], _ =>
    rw [show Try.prog.cellsOf 48 = 1 by kernel_rfl] at h0
    simp at h0
    exact ⟨l, by rw [h0]⟩
theorem lifted10 (os : Os) (started : os.Started) (H : Type) (enc : TypeId × Value → H) :
    ReturnsInHanded {} Try.checked os 10 .any (Rows.fnExactDbOkSpec.pre6 enc Try.prog Try.f10 Rows.fnExactDbOkRow.domain false) (Rows.fnExactDbOkSpec.post enc Try.prog Try.f10 false true false false) := by
  refine law_lifted (tb := 4) own started (by kernel_rfl) Try.func10
    (ChangeSpec.witness6 (enc := enc) (C := Try.checked) false ⟨#[], #[.agg #[.slice none 0 0]], []⟩ 8 (by kernel_rfl) (by kernel_rfl) (by kernel_rfl) (by kernel_rfl))
    laid (of_decide_eq_true (by kernel_rfl)) Try.underlying4 rfl rfl (fun ds h => ?_) ?_
  · match ds, h with
    | [d0], _ => rfl
  · intro W base args ds p hok hA _ hz
    have hA' : DataW.TrodAll enc Try.prog W 0 (fun _ => true) true [50] args.toList ds p := hA
    obtain ⟨v0, d0, rfl, rfl, h0⟩ := trodAll_one hA'
    have hz' : ∀ k ∈ DataW.weightsEach Try.prog [50] [d0], k ≤ reachBytes := by
      have := hz
      simp only [List.all_eq_true, decide_eq_true_eq] at this
      exact this
    obtain ⟨r0, a0, w0⟩ := arg_st (n := 6) Try.underlying50 (by kernel_rfl) (hok 0 50 v0 (by rw [Try.params10]; rfl) rfl) h0 fun k hk => hz' k (weightsEach_get (i := 0) rfl rfl k hk)
    obtain ⟨l, rfl⟩ := db_shape w0
    refine law_walk (ok10 l _ rfl) rfl fun j v d hv hd => ?_
    match j with
    | 0 => simp at hv hd; subst hv; subst hd; exact a0
    | j + 1 => simp at hv
end Go.Proofs.Ytmnhoglkahmlaaa.Ab
namespace Go.Proofs.Ytmnhoglkahmlaaa
theorem fnExactDbOk_holds : Rows.FnExactDbOkSaid :=
  OpenClaim.holds_of_wide 10 Try.f10 rfl rfl rfl rfl rfl rfl rfl ⟨rfl, rfl, rfl, rfl, rfl⟩ rfl rfl rfl rfl rfl (by kernel_rfl) Try.func10 (by kernel_rfl)
    (of_decide_eq_true (by kernel_rfl)) (by unfold Func.isWrapper; first | (rw [if_pos (by decide +kernel)]; kernel_rfl) | (rw [if_neg (by decide +kernel)]; exact ⟨rfl, rfl⟩))
    (fun os started H enc _ => Ab.lifted10 os started H enc)
end Go.Proofs.Ytmnhoglkahmlaaa
#print axioms Go.Proofs.Ytmnhoglkahmlaaa.fnExactDbOk_holds
