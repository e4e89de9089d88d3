/- The law FnExactRowCmp. -/
import Derived.Test.YtmnhoglkahmlaaaU7
import Derived.Test.YtmnhoglkahmlaaaAbW
import Derived.Test.YtmnhoglkahmlaaaLV
set_option linter.unusedSimpArgs false
set_option linter.unusedVariables false
set_option linter.unnecessarySimpa false
set_option linter.constructorNameAsVariable false
namespace Go.Proofs.Ytmnhoglkahmlaaa.Ab
open Go Go.ChangeShapes Go.WideShapes Go.ChangeAt Go.RowKit
attribute [local irreducible] Try.prog
theorem row_shape {r : List E} (h : WT Try.prog 2 24 r) : ∃ p, r = vr p := by
  simp only [WT, Try.underlying24] at h
  obtain ⟨hl, hf⟩ := h
  have h0 : WT Try.prog 1 4 ((r.drop 0).take (Try.prog.cellsOf 4)) := hf 0 _ rfl
  have h1 : WT Try.prog 1 2 ((r.drop 1).take (Try.prog.cellsOf 2)) := hf 1 _ rfl
  rw [cs24] at hl
  simp only [WT, cs4, cs2, Try.underlying4, Try.underlying2] at h0 h1
  obtain ⟨b, h0⟩ := h0
  obtain ⟨m, h1, _⟩ := h1
  match r, hl with
  | [x, y], _ =>
    simp at h0 h1
    exact ⟨(b, m), by rw [h0, h1]⟩
theorem rows_shape : ∀ {rows : List (List E)}, (∀ r ∈ rows, WT Try.prog 2 24 r ∧ r.length = Try.prog.cellsOf 24) → ∃ l : List (Bool × Int), rows = l.map vr
  | [], _ => ⟨[], rfl⟩
  | r :: rows, h => by
    obtain ⟨p, hp⟩ := row_shape (h r (by simp)).1
    obtain ⟨l, hl⟩ := rows_shape (rows := rows) fun q hq => h q (List.mem_cons_of_mem _ hq)
    exact ⟨p :: l, by rw [hp, hl]; rfl⟩
theorem lifted8 (os : Os) (started : os.Started) (H : Type) (enc : TypeId × Value → H) :
    ReturnsInHanded {} Try.checked os 8 .any (Rows.fnExactRowCmpSpec.pre6 enc Try.prog Try.f8 Rows.fnExactRowCmpRow.domain false) (Rows.fnExactRowCmpSpec.post enc Try.prog Try.f8 false true false false) := by
  refine law_lifted (tb := 4) own started (by kernel_rfl) Try.func8
    (ChangeSpec.witness6 (enc := enc) (C := Try.checked) false ⟨#[], #[.slice none 0 0, .slice none 0 0], []⟩ 8 (by kernel_rfl) (by kernel_rfl) (by kernel_rfl) (by kernel_rfl))
    laid (of_decide_eq_true (by kernel_rfl)) Try.underlying4 rfl rfl (fun ds h => ?_) ?_
  · match ds, h with
    | [d0, d1], _ => rfl
  · intro W base args ds p hok hA _ hz
    have hA' : DataW.TrodAll enc Try.prog W 0 (fun _ => true) true [34, 34] args.toList ds p := hA
    obtain ⟨v0, v1, d0, d1, p0, p1, rfl, rfl, _, h0, h1⟩ := trodAll_two hA'
    have hz' : ∀ k ∈ DataW.weightsEach Try.prog [34, 34] [d0, d1], k ≤ reachBytes := by
      have := hz
      simp only [List.all_eq_true, decide_eq_true_eq] at this
      exact this
    obtain ⟨r0, a0, w0⟩ := arg_sl (n := 2) Try.underlying34 (by kernel_rfl) (hok 0 34 v0 (by rw [Try.params8]; rfl) rfl) h0 fun k hk => hz' k (weightsEach_get (i := 0) rfl rfl k hk)
    obtain ⟨r1, a1, w1⟩ := arg_sl (n := 2) Try.underlying34 (by kernel_rfl) (hok 1 34 v1 (by rw [Try.params8]; rfl) rfl) h1 fun k hk => hz' k (weightsEach_get (i := 1) rfl rfl k hk)
    obtain ⟨l0, e0⟩ := rows_shape w0
    obtain ⟨l1, e1⟩ := rows_shape w1
    refine law_walk (ok8 l0 l1 r0 r1 e0 e1) rfl fun j v d hv hd => ?_
    match j with
    | 0 => simp at hv hd; subst hv; subst hd; exact a0
    | 1 => simp at hv hd; subst hv; subst hd; exact a1
    | j + 2 => simp at hv
end Go.Proofs.Ytmnhoglkahmlaaa.Ab
namespace Go.Proofs.Ytmnhoglkahmlaaa
theorem fnExactRowCmp_holds : Rows.FnExactRowCmpSaid :=
  OpenClaim.holds_of_wide 8 Try.f8 rfl rfl rfl rfl rfl rfl rfl ⟨rfl, rfl, rfl, rfl, rfl⟩ rfl rfl rfl rfl rfl (by kernel_rfl) Try.func8 (by kernel_rfl)
    (of_decide_eq_true (by kernel_rfl)) (by unfold Func.isWrapper; first | (rw [if_pos (by decide +kernel)]; kernel_rfl) | (rw [if_neg (by decide +kernel)]; exact ⟨rfl, rfl⟩))
    (fun os started H enc _ => Ab.lifted8 os started H enc)
end Go.Proofs.Ytmnhoglkahmlaaa
#print axioms Go.Proofs.Ytmnhoglkahmlaaa.fnExactRowCmp_holds
