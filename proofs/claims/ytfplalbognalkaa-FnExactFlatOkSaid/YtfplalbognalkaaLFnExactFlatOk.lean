/- The law FnExactFlatOk: it returns true for every input, without a further condition. -/
import Derived.Test.YtfplalbognalkaaMFnExactFlatOk6
set_option linter.unusedSimpArgs false
set_option linter.unusedVariables false
set_option linter.unnecessarySimpa false
set_option linter.constructorNameAsVariable false
namespace Go.Proofs.Ytfplalbognalkaa.Ab
open Go Go.ChangeShapes Go.WideShapes Go.ChangeAt Go.RowKit
attribute [local irreducible] Try.prog
theorem csStr : Try.prog.cellsOf 9 = 1 := by kernel_rfl
theorem csOps : Try.prog.cellsOf 166 = 1 := by kernel_rfl
theorem csOpss : Try.prog.cellsOf 167 = 1 := by kernel_rfl
theorem csFNode : Try.prog.cellsOf 169 = 8 := by kernel_rfl
theorem csFNodes : Try.prog.cellsOf 47 = 1 := by kernel_rfl
theorem csFlat : Try.prog.cellsOf 49 = 2 := by kernel_rfl
theorem csVals : Try.prog.cellsOf 96 = 1 := by kernel_rfl
theorem csValss : Try.prog.cellsOf 31 = 1 := by kernel_rfl
theorem csTable : Try.prog.cellsOf 172 = 3 := by kernel_rfl
theorem csTables : Try.prog.cellsOf 50 = 1 := by kernel_rfl
theorem csDb : Try.prog.cellsOf 52 = 1 := by kernel_rfl
theorem op_shape3 {r : List E} (h : WT Try.prog 3 223 r) : ∃ p, r = orow p := by
  simp only [WT, Try.underlying223] at h
  obtain ⟨hl, hf⟩ := h
  have h0 : WT Try.prog 2 3 ((r.drop 0).take (Try.prog.cellsOf 3)) := hf 0 _ rfl
  have h1 : WT Try.prog 2 2 ((r.drop 1).take (Try.prog.cellsOf 2)) := hf 1 _ rfl
  rw [cs94] at hl
  simp only [WT, cs3, cs2, Try.underlying3, Try.underlying2] at h0 h1
  obtain ⟨b, h0, _⟩ := h0
  obtain ⟨m, h1, _⟩ := h1
  match r, hl with
  | [x, y], _ =>
    simp at h0 h1
    exact ⟨(b, m), by rw [h0, h1]⟩
theorem ops_shape3 : ∀ {rows : List (List E)}, (∀ r ∈ rows, WT Try.prog 3 223 r ∧ r.length = Try.prog.cellsOf 223) → ∃ l : List (Int × Int), rows = l.map orow
  | [], _ => ⟨[], rfl⟩
  | r :: rows, h => by
    obtain ⟨p, hp⟩ := op_shape3 (h r (by simp)).1
    obtain ⟨l, hl⟩ := ops_shape3 (rows := rows) fun q hq => h q (List.mem_cons_of_mem _ hq)
    exact ⟨p :: l, by rw [hp, hl]; rfl⟩
theorem orr_shape {r : List E} (h : WT Try.prog 3 166 r) : ∃ p, r = orr p := by
  simp only [WT, Try.underlying166] at h
  obtain ⟨rows, rfl, _, h⟩ := h
  obtain ⟨l, rfl⟩ := ops_shape h
  exact ⟨l, rfl⟩
theorem orrs_shape : ∀ {rows : List (List E)}, (∀ r ∈ rows, WT Try.prog 3 166 r ∧ r.length = Try.prog.cellsOf 166) → ∃ l : List (List (Int × Int)), rows = l.map orr
  | [], _ => ⟨[], rfl⟩
  | r :: rows, h => by
    obtain ⟨p, hp⟩ := orr_shape (h r (by simp)).1
    obtain ⟨l, hl⟩ := orrs_shape (rows := rows) fun q hq => h q (List.mem_cons_of_mem _ hq)
    exact ⟨p :: l, by rw [hp, hl]; rfl⟩
theorem fnode_shape {r : List E} (h : WT Try.prog 5 169 r) : ∃ d, r = fdr d := by
  simp only [WT, Try.underlying169] at h
  obtain ⟨hl, hf⟩ := h
  have h0 : WT Try.prog 4 3 ((r.drop 0).take (Try.prog.cellsOf 3)) := hf 0 _ rfl
  have h1 : WT Try.prog 4 3 ((r.drop 1).take (Try.prog.cellsOf 3)) := hf 1 _ rfl
  have h2 : WT Try.prog 4 3 ((r.drop 2).take (Try.prog.cellsOf 3)) := hf 2 _ rfl
  have h3 : WT Try.prog 4 3 ((r.drop 3).take (Try.prog.cellsOf 3)) := hf 3 _ rfl
  have h4 : WT Try.prog 4 166 ((r.drop 4).take (Try.prog.cellsOf 166)) := hf 4 _ rfl
  have h5 : WT Try.prog 4 167 ((r.drop 5).take (Try.prog.cellsOf 167)) := hf 5 _ rfl
  have h6 : WT Try.prog 4 3 ((r.drop 6).take (Try.prog.cellsOf 3)) := hf 6 _ rfl
  have h7 : WT Try.prog 4 3 ((r.drop 7).take (Try.prog.cellsOf 3)) := hf 7 _ rfl
  rw [csFNode] at hl
  rw [csOps] at h4
  rw [csOpss] at h5
  simp only [WT, cs3, Try.underlying3] at h0 h1 h2 h3 h6 h7
  simp only [WT, Try.underlying166] at h4
  simp only [WT, Try.underlying167] at h5
  obtain ⟨K, h0, _⟩ := h0
  obtain ⟨T, h1, _⟩ := h1
  obtain ⟨M, h2, _⟩ := h2
  obtain ⟨W, h3, _⟩ := h3
  obtain ⟨rs4, h4, _, g4⟩ := h4
  obtain ⟨rs5, h5, _, g5⟩ := h5
  obtain ⟨L, h6, _⟩ := h6
  obtain ⟨R, h7, _⟩ := h7
  obtain ⟨Ex, rfl⟩ := ops_shape3 g4
  obtain ⟨Exs, rfl⟩ := orrs_shape g5
  match r, hl with
  | [a, b, c, d, e, f, g, i], _ =>
    simp at h0 h1 h2 h3 h4 h5 h6 h7
    exact ⟨⟨K, T, M, W, Ex, Exs, L, R⟩, by rw [h0, h1, h2, h3, h4, h5, h6, h7]⟩
theorem fnodes_shape : ∀ {rows : List (List E)}, (∀ r ∈ rows, WT Try.prog 5 169 r ∧ r.length = Try.prog.cellsOf 169) → ∃ l : List Fd, rows = l.map fdr
  | [], _ => ⟨[], rfl⟩
  | r :: rows, h => by
    obtain ⟨p, hp⟩ := fnode_shape (h r (by simp)).1
    obtain ⟨l, hl⟩ := fnodes_shape (rows := rows) fun q hq => h q (List.mem_cons_of_mem _ hq)
    exact ⟨p :: l, by rw [hp, hl]; rfl⟩
theorem flat_shape {r : List E} (h : WT Try.prog 7 49 r) : ∃ (l : List Fd) (rt : Int), r = [.sl (l.map fdr), .int rt] := by
  simp only [WT, Try.underlying49] at h
  obtain ⟨hl, hf⟩ := h
  have h0 : WT Try.prog 6 47 ((r.drop 0).take (Try.prog.cellsOf 47)) := hf 0 _ rfl
  have h1 : WT Try.prog 6 3 ((r.drop 1).take (Try.prog.cellsOf 3)) := hf 1 _ rfl
  rw [csFlat] at hl
  rw [csFNodes] at h0
  simp only [WT, Try.underlying47] at h0
  simp only [WT, cs3, Try.underlying3] at h1
  obtain ⟨rows, h0, _, h3⟩ := h0
  obtain ⟨rt, h1, _⟩ := h1
  obtain ⟨l, rfl⟩ := fnodes_shape h3
  match r, hl with
  | [x, y], _ =>
    simp at h0 h1
    exact ⟨l, rt, by rw [h0, h1]⟩
theorem srow_shape {r : List E} (h : WT Try.prog 3 96 r) : ∃ p, r = rsr p := by
  simp only [WT, Try.underlying96] at h
  obtain ⟨rows, rfl, _, h⟩ := h
  obtain ⟨l, rfl⟩ := rows_shape h
  exact ⟨l, rfl⟩
theorem srows_shape : ∀ {rows : List (List E)}, (∀ r ∈ rows, WT Try.prog 3 96 r ∧ r.length = Try.prog.cellsOf 96) → ∃ l : List (List (Bool × Int)), rows = l.map rsr
  | [], _ => ⟨[], rfl⟩
  | r :: rows, h => by
    obtain ⟨p, hp⟩ := srow_shape (h r (by simp)).1
    obtain ⟨l, hl⟩ := srows_shape (rows := rows) fun q hq => h q (List.mem_cons_of_mem _ hq)
    exact ⟨p :: l, by rw [hp, hl]; rfl⟩
theorem tab_shape {r : List E} (h : WT Try.prog 5 172 r) : ∃ p, r = tbr p := by
  simp only [WT, Try.underlying172] at h
  obtain ⟨hl, hf⟩ := h
  have h0 : WT Try.prog 4 9 ((r.drop 0).take (Try.prog.cellsOf 9)) := hf 0 _ rfl
  have h1 : WT Try.prog 4 3 ((r.drop 1).take (Try.prog.cellsOf 3)) := hf 1 _ rfl
  have h2 : WT Try.prog 4 31 ((r.drop 2).take (Try.prog.cellsOf 31)) := hf 2 _ rfl
  rw [csTable] at hl
  rw [csValss] at h2
  simp only [WT, csStr, cs3, Try.underlying9, Try.underlying3] at h0 h1
  simp only [WT, Try.underlying31] at h2
  obtain ⟨s, h0, _⟩ := h0
  obtain ⟨m, h1, _⟩ := h1
  obtain ⟨rows, h2, _, h3⟩ := h2
  obtain ⟨l, rfl⟩ := srows_shape h3
  match r, hl with
  | [x, y, z], _ =>
    simp at h0 h1 h2
    exact ⟨(s.data.toList, m, l), by rw [h0, h1, h2]⟩
theorem tabs_shape : ∀ {rows : List (List E)}, (∀ r ∈ rows, WT Try.prog 5 172 r ∧ r.length = Try.prog.cellsOf 172) → ∃ l : List Tb, rows = l.map tbr
  | [], _ => ⟨[], rfl⟩
  | r :: rows, h => by
    obtain ⟨p, hp⟩ := tab_shape (h r (by simp)).1
    obtain ⟨l, hl⟩ := tabs_shape (rows := rows) fun q hq => h q (List.mem_cons_of_mem _ hq)
    exact ⟨p :: l, by rw [hp, hl]; rfl⟩
theorem db_shape {r : List E} (h : WT Try.prog 7 52 r) : ∃ l : List Tb, r = [.sl (l.map tbr)] := by
  simp only [WT, Try.underlying52] at h
  obtain ⟨hl, hf⟩ := h
  have h0 : WT Try.prog 6 50 ((r.drop 0).take (Try.prog.cellsOf 50)) := hf 0 _ rfl
  rw [csDb] at hl
  simp only [WT, Try.underlying50] at h0
  obtain ⟨rows, h0, _, h3⟩ := h0
  obtain ⟨l, rfl⟩ := tabs_shape h3
  match r, hl with
  | [x], _ =>
    rw [csTables] at h0
    simp at h0
    exact ⟨l, by rw [h0]⟩
theorem lifted201 (os : Os) (started : os.Started) (H : Type) (enc : TypeId × Value → H) :
    ReturnsInHanded {} Try.checked os 6 .any (Rows.fnExactFlatOkSpec.pre6 enc Try.prog Try.f6 Rows.fnExactFlatOkRow.domain false) (Rows.fnExactFlatOkSpec.post enc Try.prog Try.f6 false true false false) := by
  refine law_lifted (tb := 4) own started (by kernel_rfl) Try.func6
    (ChangeSpec.witness6 (enc := enc) (C := Try.checked) false ⟨#[], #[.agg #[.slice none 0 0, .int .i64 0], .agg #[.slice none 0 0]], []⟩ 8 (by kernel_rfl) (by kernel_rfl) (by kernel_rfl) (by kernel_rfl))
    laid (of_decide_eq_true (by kernel_rfl)) Try.underlying4 rfl rfl (fun ds h => ?_) ?_
  · match ds, h with
    | [d0, d1], _ => rfl
  · intro W base args ds p hok hA _ hz
    have hA' : DataW.TrodAll enc Try.prog W 0 (fun _ => true) true [49, 52] args.toList ds p := hA
    obtain ⟨v0, v1, d0, d1, p0, p1, rfl, rfl, _, h0, h1⟩ := trodAll_two hA'
    have hz' : ∀ k ∈ DataW.weightsEach Try.prog [49, 52] [d0, d1], k ≤ reachBytes := by
      have := hz
      simp only [List.all_eq_true, decide_eq_true_eq] at this
      exact this
    obtain ⟨r0, a0, w0⟩ := arg_st (n := 6) Try.underlying49 (by kernel_rfl) (hok 0 49 v0 (by rw [Try.params6]; rfl) rfl) h0 fun k hk => hz' k (weightsEach_get (i := 0) rfl rfl k hk)
    obtain ⟨r1, a1, w1⟩ := arg_st (n := 6) Try.underlying52 (by kernel_rfl) (hok 1 52 v1 (by rw [Try.params6]; rfl) rfl) h1 fun k hk => hz' k (weightsEach_get (i := 1) rfl rfl k hk)
    obtain ⟨l, rt, rfl⟩ := flat_shape w0
    obtain ⟨ts, rfl⟩ := db_shape w1
    refine law_walk (ok6 l rt _ rfl ts _ rfl) rfl fun j v d hv hd => ?_
    match j with
    | 0 => simp at hv hd; subst hv; subst hd; exact a0
    | 1 => simp at hv hd; subst hv; subst hd; exact a1
    | j + 2 => simp at hv
end Go.Proofs.Ytfplalbognalkaa.Ab
namespace Go.Proofs.Ytfplalbognalkaa
theorem fnExactFlatOk_holds : Rows.FnExactFlatOkSaid :=
  OpenClaim.holds_of_wide 6 Try.f6 rfl rfl rfl rfl rfl rfl rfl ⟨rfl, rfl, rfl, rfl, rfl⟩ rfl rfl rfl rfl rfl (by kernel_rfl) Try.func6 (by kernel_rfl)
    (of_decide_eq_true (by kernel_rfl)) (by unfold Func.isWrapper; first | (rw [if_pos (by decide +kernel)]; kernel_rfl) | (rw [if_neg (by decide +kernel)]; exact ⟨rfl, rfl⟩))
    (fun os started H enc _ => Ab.lifted201 os started H enc)
end Go.Proofs.Ytfplalbognalkaa
#print axioms Go.Proofs.Ytfplalbognalkaa.fnExactFlatOk_holds
