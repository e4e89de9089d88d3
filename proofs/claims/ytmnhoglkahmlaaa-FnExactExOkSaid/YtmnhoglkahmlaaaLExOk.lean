/- The law FnExactExOk. -/
import Derived.Test.YtmnhoglkahmlaaaV6
import Derived.Test.YtmnhoglkahmlaaaAbW
import Derived.Test.YtmnhoglkahmlaaaLV
set_option linter.unusedSimpArgs false
set_option linter.unusedVariables false
set_option linter.unnecessarySimpa false
set_option linter.constructorNameAsVariable false
namespace Go.Proofs.Ytmnhoglkahmlaaa.Ab
open Go Go.ChangeShapes Go.WideShapes Go.ChangeAt Go.RowKit
attribute [local irreducible] Try.prog
theorem cs94 : Try.prog.cellsOf 94 = 2 := by kernel_rfl
theorem cs3 : Try.prog.cellsOf 3 = 1 := by kernel_rfl
theorem op_shape {r : List E} (h : WT Try.prog 2 94 r) : ∃ p, r = orow p := by
  simp only [WT, Try.underlying94] at h
  obtain ⟨hl, hf⟩ := h
  have h0 : WT Try.prog 1 3 ((r.drop 0).take (Try.prog.cellsOf 3)) := hf 0 _ rfl
  have h1 : WT Try.prog 1 2 ((r.drop 1).take (Try.prog.cellsOf 2)) := hf 1 _ rfl
  rw [cs94] at hl
  simp only [WT, cs3, cs2, Try.underlying3, Try.underlying2] at h0 h1
  obtain ⟨b, h0, _⟩ := h0
  obtain ⟨m, h1, _⟩ := h1
  match r, hl with
  | [x, y], _ =>
    simp at h0 h1
    exact ⟨(b, m), by rw [h0, h1]⟩
theorem ops_shape : ∀ {rows : List (List E)}, (∀ r ∈ rows, WT Try.prog 2 94 r ∧ r.length = Try.prog.cellsOf 94) → ∃ l : List (Int × Int), rows = l.map orow
  | [], _ => ⟨[], rfl⟩
  | r :: rows, h => by
    obtain ⟨p, hp⟩ := op_shape (h r (by simp)).1
    obtain ⟨l, hl⟩ := ops_shape (rows := rows) fun q hq => h q (List.mem_cons_of_mem _ hq)
    exact ⟨p :: l, by rw [hp, hl]; rfl⟩
theorem lifted9 (os : Os) (started : os.Started) (H : Type) (enc : TypeId × Value → H) :
    ReturnsInHanded {} Try.checked os 9 .any (Rows.fnExactExOkSpec.pre6 enc Try.prog Try.f9 Rows.fnExactExOkRow.domain false) (Rows.fnExactExOkSpec.post enc Try.prog Try.f9 false true false false) := by
  refine law_lifted (tb := 4) own started (by kernel_rfl) Try.func9
    (ChangeSpec.witness6 (enc := enc) (C := Try.checked) false ⟨#[], #[.slice none 0 0, .int .i64 0], []⟩ 8 (by kernel_rfl) (by kernel_rfl) (by kernel_rfl) (by kernel_rfl))
    laid (of_decide_eq_true (by kernel_rfl)) Try.underlying4 rfl rfl (fun ds h => ?_) ?_
  · match ds, h with
    | [d0, d1], _ => rfl
  · intro W base args ds p hok hA _ hz
    have hA' : DataW.TrodAll enc Try.prog W 0 (fun _ => true) true [41, 3] args.toList ds p := hA
    obtain ⟨v0, v1, d0, d1, p0, p1, rfl, rfl, _, h0, h1⟩ := trodAll_two hA'
    have hz' : ∀ k ∈ DataW.weightsEach Try.prog [41, 3] [d0, d1], k ≤ reachBytes := by
      have := hz
      simp only [List.all_eq_true, decide_eq_true_eq] at this
      exact this
    obtain ⟨r0, a0, w0⟩ := arg_sl (n := 2) Try.underlying41 (by kernel_rfl) (hok 0 41 v0 (by rw [Try.params9]; rfl) rfl) h0 fun k hk => hz' k (weightsEach_get (i := 0) rfl rfl k hk)
    obtain ⟨n1, rfl, hn1⟩ := arg_int Try.underlying3 (hok 1 3 v1 (by rw [Try.params9]; rfl) rfl) h1
    obtain ⟨l0, e0⟩ := ops_shape w0
    refine law_walk (ok9 l0 r0 e0 n1) rfl fun j v d hv hd => ?_
    match j with
    | 0 => simp at hv hd; subst hv; subst hd; exact a0
    | 1 => simp at hv hd; subst hv; subst hd; exact rv_i64 hn1
    | j + 2 => simp at hv
end Go.Proofs.Ytmnhoglkahmlaaa.Ab
namespace Go.Proofs.Ytmnhoglkahmlaaa
theorem fnExactExOk_holds : Rows.FnExactExOkSaid :=
  OpenClaim.holds_of_wide 9 Try.f9 rfl rfl rfl rfl rfl rfl rfl ⟨rfl, rfl, rfl, rfl, rfl⟩ rfl rfl rfl rfl rfl (by kernel_rfl) Try.func9 (by kernel_rfl)
    (of_decide_eq_true (by kernel_rfl)) (by unfold Func.isWrapper; first | (rw [if_pos (by decide +kernel)]; kernel_rfl) | (rw [if_neg (by decide +kernel)]; exact ⟨rfl, rfl⟩))
    (fun os started H enc _ => Ab.lifted9 os started H enc)
end Go.Proofs.Ytmnhoglkahmlaaa
#print axioms Go.Proofs.Ytmnhoglkahmlaaa.fnExactExOk_holds
