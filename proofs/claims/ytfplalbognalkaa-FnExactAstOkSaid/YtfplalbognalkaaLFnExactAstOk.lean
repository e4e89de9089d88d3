/- The law FnExactAstOk: it returns true for every input, without a further condition. -/
import Derived.Test.YtfplalbognalkaaMFnExactAstOk6
set_option linter.unusedSimpArgs false
set_option linter.unusedVariables false
set_option linter.unnecessarySimpa false
set_option linter.constructorNameAsVariable false
namespace Go.Proofs.Ytfplalbognalkaa.Ab
open Go Go.ChangeShapes Go.WideShapes Go.ChangeAt Go.RowKit
attribute [local irreducible] Try.prog
theorem cs3 : Try.prog.cellsOf 3 = 1 := by kernel_rfl
theorem csStr : Try.prog.cellsOf 9 = 1 := by kernel_rfl
theorem csInts : Try.prog.cellsOf 103 = 1 := by kernel_rfl
theorem csNode : Try.prog.cellsOf 156 = 6 := by kernel_rfl
theorem csNodes : Try.prog.cellsOf 36 = 1 := by kernel_rfl
theorem csAst : Try.prog.cellsOf 38 = 1 := by kernel_rfl
theorem ints_shape : ∀ {rows : List (List E)}, (∀ r ∈ rows, (∃ m, r = [E.v (Value.int IntKind.i64 m)] ∧ IntKind.i64.min ≤ m ∧ m ≤ IntKind.i64.max) ∧ r.length = 1) → ∃ l : List Int, rows = l.map ir
  | [], _ => ⟨[], rfl⟩
  | r :: rows, h => by
    obtain ⟨⟨p, hp, _⟩, _⟩ := h r (by simp)
    obtain ⟨l, hl⟩ := ints_shape (rows := rows) fun q hq => h q (List.mem_cons_of_mem _ hq)
    exact ⟨p :: l, by rw [hp, hl]; rfl⟩
theorem node_shape {r : List E} (h : WT Try.prog 3 156 r) : ∃ d, r = ndr d := by
  simp only [WT, Try.underlying156] at h
  obtain ⟨hl, hf⟩ := h
  have h0 : WT Try.prog 2 3 ((r.drop 0).take (Try.prog.cellsOf 3)) := hf 0 _ rfl
  have h1 : WT Try.prog 2 2 ((r.drop 1).take (Try.prog.cellsOf 2)) := hf 1 _ rfl
  have h2 : WT Try.prog 2 3 ((r.drop 2).take (Try.prog.cellsOf 3)) := hf 2 _ rfl
  have h3 : WT Try.prog 2 9 ((r.drop 3).take (Try.prog.cellsOf 9)) := hf 3 _ rfl
  have h4 : WT Try.prog 2 9 ((r.drop 4).take (Try.prog.cellsOf 9)) := hf 4 _ rfl
  have h5 : WT Try.prog 2 103 ((r.drop 5).take (Try.prog.cellsOf 103)) := hf 5 _ rfl
  rw [csNode] at hl
  simp only [WT, cs3, cs2, csStr, csInts, Try.underlying3, Try.underlying2, Try.underlying9, Try.underlying103] at h0 h1 h2 h3 h4 h5
  obtain ⟨K, h0, _⟩ := h0
  obtain ⟨N, h1, _⟩ := h1
  obtain ⟨M, h2, _⟩ := h2
  obtain ⟨S, h3, _⟩ := h3
  obtain ⟨T, h4, _⟩ := h4
  obtain ⟨rows, h5, _, h6⟩ := h5
  obtain ⟨l, rfl⟩ := ints_shape h6
  match r, hl with
  | [a, b, c, d, e, f], _ =>
    simp at h0 h1 h2 h3 h4 h5
    exact ⟨⟨K, N, M, S.data.toList, T.data.toList, l⟩, by rw [h0, h1, h2, h3, h4, h5]⟩
theorem nodes_shape : ∀ {rows : List (List E)}, (∀ r ∈ rows, WT Try.prog 3 156 r ∧ r.length = Try.prog.cellsOf 156) → ∃ l : List Nd, rows = l.map ndr
  | [], _ => ⟨[], rfl⟩
  | r :: rows, h => by
    obtain ⟨p, hp⟩ := node_shape (h r (by simp)).1
    obtain ⟨l, hl⟩ := nodes_shape (rows := rows) fun q hq => h q (List.mem_cons_of_mem _ hq)
    exact ⟨p :: l, by rw [hp, hl]; rfl⟩
theorem ast_shape {r : List E} (h : WT Try.prog 5 38 r) : ∃ l : List Nd, r = [.sl (l.map ndr)] := by
  simp only [WT, Try.underlying38] at h
  obtain ⟨hl, hf⟩ := h
  have h0 : WT Try.prog 4 36 ((r.drop 0).take (Try.prog.cellsOf 36)) := hf 0 _ rfl
  rw [csAst] at hl
  simp only [WT, Try.underlying36] at h0
  obtain ⟨rows, h0, _, h3⟩ := h0
  obtain ⟨l, rfl⟩ := nodes_shape h3
  match r, hl with
  | [x], _ =>
    rw [csNodes] at h0
    simp at h0
    exact ⟨l, by rw [h0]⟩
theorem lifted200 (os : Os) (started : os.Started) (H : Type) (enc : TypeId × Value → H) :
    ReturnsInHanded {} Try.checked os 5 .any (Rows.fnExactAstOkSpec.pre6 enc Try.prog Try.f5 Rows.fnExactAstOkRow.domain false) (Rows.fnExactAstOkSpec.post enc Try.prog Try.f5 false true false false) := by
  refine law_lifted (tb := 4) own started (by kernel_rfl) Try.func5
    (ChangeSpec.witness6 (enc := enc) (C := Try.checked) false ⟨#[], #[.agg #[.slice none 0 0]], []⟩ 8 (by kernel_rfl) (by kernel_rfl) (by kernel_rfl) (by kernel_rfl))
    laid (of_decide_eq_true (by kernel_rfl)) Try.underlying4 rfl rfl (fun ds h => ?_) ?_
  · match ds, h with
    | [d0], _ => rfl
  · intro W base args ds p hok hA _ hz
    have hA' : DataW.TrodAll enc Try.prog W 0 (fun _ => true) true [38] args.toList ds p := hA
    obtain ⟨v0, d0, rfl, rfl, h0⟩ := trodAll_one hA'
    have hz' : ∀ k ∈ DataW.weightsEach Try.prog [38] [d0], k ≤ reachBytes := by
      have := hz
      simp only [List.all_eq_true, decide_eq_true_eq] at this
      exact this
    obtain ⟨r0, a0, w0⟩ := arg_st (n := 4) Try.underlying38 (by kernel_rfl) (hok 0 38 v0 (by rw [Try.params5]; rfl) rfl) h0 fun k hk => hz' k (weightsEach_get (i := 0) rfl rfl k hk)
    obtain ⟨l, rfl⟩ := ast_shape w0
    refine law_walk (ok5 l _ rfl) rfl fun j v d hv hd => ?_
    match j with
    | 0 => simp at hv hd; subst hv; subst hd; exact a0
    | j + 1 => simp at hv
end Go.Proofs.Ytfplalbognalkaa.Ab
namespace Go.Proofs.Ytfplalbognalkaa
theorem fnExactAstOk_holds : Rows.FnExactAstOkSaid :=
  OpenClaim.holds_of_wide 5 Try.f5 rfl rfl rfl rfl rfl rfl rfl ⟨rfl, rfl, rfl, rfl, rfl⟩ rfl rfl rfl rfl rfl (by kernel_rfl) Try.func5 (by kernel_rfl)
    (of_decide_eq_true (by kernel_rfl)) (by unfold Func.isWrapper; first | (rw [if_pos (by decide +kernel)]; kernel_rfl) | (rw [if_neg (by decide +kernel)]; exact ⟨rfl, rfl⟩))
    (fun os started H enc _ => Ab.lifted200 os started H enc)
end Go.Proofs.Ytfplalbognalkaa
#print axioms Go.Proofs.Ytfplalbognalkaa.fnExactAstOk_holds
