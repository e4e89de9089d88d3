/- An argument that is a struct. -/
import Derived.Test.YtmnhoglkahmlaaaAbW
set_option linter.unusedSimpArgs false
set_option linter.unusedVariables false
set_option linter.unnecessarySimpa false
set_option linter.constructorNameAsVariable false
namespace Go.Proofs.Ytmnhoglkahmlaaa.Ab
open Go Go.ChangeShapes Go.WideShapes Go.ChangeAt Go.RowKit
theorem arg_st {H : Type} {enc : TypeId × Value → H} {P : Program} {W : World} {sp : Nat → Bool} {held : Bool} {n : Nat} {t : TypeId} {fs : Array Field} {b0 : Nat} {v : Value} {d : DataW H} {ps : List MemPlace} (ht : P.underlying t = some (.struct fs)) (hok : okT P (n + 1) t = true) (hv : Value.okWide P W .any b0 t v)
    (h : DataW.Trod enc P W 0 sp held t v d ps) (hw : ∀ k ∈ d.weights P t, k ≤ reachBytes) : ∃ es, Rv W (pubAll W) (hpF []) v (.agg (es.map .e)) ∧ WT P (n + 1) t es := by
  obtain ⟨cs, rfl, hs⟩ := okWide_struct ht hv
  obtain ⟨fuel, hf⟩ := h
  obtain ⟨es, w1, l1, r1⟩ := trod_E (n + 1) fuel t _ _ hok hf hw
  have l1 : es.length = cs.size := l1
  have r1 : ∀ (j : Nat) c e, cs[j]? = some c → es[j]? = some e → RvE W (pubAll W).pub c e := fun j c e hc he => r1 j c e (by simpa [Value.cells] using hc) he
  refine ⟨es, .agg (by simp [l1]) (fun j c hc => ?_) (fun j c d hc hd => ?_), w1⟩
  · have hj : j < es.length := by rw [l1]; exact (Array.getElem?_eq_some_iff.1 hc).1
    exact (r1 j c _ hc (List.getElem?_eq_getElem hj)).cell
  · rw [List.getElem?_map] at hd
    cases he : es[j]? with
    | none => rw [he] at hd; cases hd
    | some e =>
      rw [he] at hd
      cases hd
      exact .e (r1 j c e hc he)
end Go.Proofs.Ytmnhoglkahmlaaa.Ab
