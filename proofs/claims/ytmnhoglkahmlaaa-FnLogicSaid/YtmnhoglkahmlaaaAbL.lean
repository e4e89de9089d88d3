/- From a law's arguments to the abstract view, and back to what the statement asks. -/
import Derived.Test.YtmnhoglkahmlaaaAb11
import Derived.WalkKit
import Derived.ProofKit
import Derived.OpenShut
import Derived.Below
import Derived.Carry
import Derived.SizedLaws
set_option linter.unusedSimpArgs false
set_option linter.unusedVariables false
set_option linter.unnecessarySimpa false
set_option linter.constructorNameAsVariable false
namespace Go.Proofs.Ytmnhoglkahmlaaa.Ab
open Go Go.ChangeShapes Go.WideShapes Go.ChangeAt Go.RowKit

/-- All that is in memory ahead of the call counts as written. -/
def pubAll (w : World) : Gh := ⟨fun b _ => b < w.heap.size, fun _ => 0⟩

theorem inv_all (w : World) : Inv w (pubAll w) (hpF []) := by
  rw [hpF_nil]
  exact ⟨fun i h => by simp [O.has] at h, fun i j h => by simp [O.has] at h, fun b o h => h, fun i ds e => by simp at e, fun i n k e => by simp at e, fun i b k ds e => by simp at e, fun i l e => by simp at e⟩

theorem Ext.below {w w' : World} {G G' : Gh} {h' : Hp} (e : Ext w G (hpF []) w' G' h') : Below w.heap.size w w' :=
  ⟨e.os, e.tape, e.output, e.size, fun k hk => e.others k hk fun i hi => by rw [hpF_nil] at hi; simp [O.has] at hi⟩

/-- A law that returns true, whatever the plain arguments. -/
theorem law_walk {P : Program} {fn : FuncId} {args : List D} (h : Plain P fn args (.bool true)) {w : World} {vs : Array Value} (hs : vs.size = args.length)
    (hr : ∀ (j : Nat) v d, vs[j]? = some v → args[j]? = some d → Rv w (pubAll w) (hpF []) v d) :
    Calls P fn vs w fun e w' => e = .returned (.bool true) ∧ Below w.heap.size w w' := by
  refine (h w (pubAll w) vs (inv_all w) hs hr).mono fun e w' ⟨v, d, l', G', he, hd, hv, hi, hx⟩ => ?_
  obtain ⟨G2, r1, _, r3⟩ := hd w' G' v hi hv
  obtain ⟨rfl, _⟩ := rv_v r1
  exact ⟨he, (r3 _ _ hx).below⟩

section
variable {H : Type} {enc : TypeId × Value → H} {P : Program}
theorem below_trodAll (hl : laidOutB P = true) {W W' : World} (hb : Below W.heap.size W W') : ∀ {ts : List TypeId} {vs : List Value} {ds : List (DataW H)} {ps : List MemPlace}, (∀ t ∈ ts, P.readableRec t = true ∧ t < P.types.size) →
    DataW.TrodAll enc P W 0 (fun _ => true) true ts vs ds ps → (∀ x ∈ ps, x.block < W.heap.size) → DataW.TrodAll enc P W' 0 (fun b => decide (b < W.heap.size)) true ts vs ds ps
  | [], vs, ds, ps, _, h, _ => by
    obtain ⟨rfl, rfl, rfl⟩ := trodAll_nil h
    exact trodAll_mk0
  | t :: ts, vs, ds, ps, ht, h, hlt => by
    obtain ⟨v, vs', d, ds', p, q, rfl, rfl, rfl, h1, h2⟩ := trodAll_cons h
    refine ⟨p, q, hb.trod hl (ht t (by simp)).1 (ht t (by simp)).2 h1 fun x hx => hlt x (by simp [hx]), ?_, rfl⟩
    exact below_trodAll hl hb (fun t' h' => ht t' (by simp [h'])) h2 fun x hx => hlt x (by simp [hx])

/-- The statement of a law that returns true and leaves its arguments, from its walk. -/
theorem law_lifted {C : Checked} {os : Os} {f : FuncId} {fn : Func} {s : ChangeSpec} {conds : List PathCond} {tb : TypeId}
    (own : ownKnob C.prog.godebug = none) (started : os.Started) (noInit : C.prog.inits.idxOf? f = none) (hfn : C.prog.funcs[f]? = some fn)
    (witness : ∃ (w : World) (tape : Tape) (i : Input), w.os = os ∧ (w.forCall tape i).Shaped C.prog ∧ i.vars = [] ∧ Input.okWide C.prog (w.forCall tape i) .any w.heap.size f i ∧
      s.pre6 enc C.prog fn conds false (w.forCall tape i).memory i.args ∧ ({} : Assume).holds C.prog (lone (Frame.enter C.prog f i.args .normal) [] (w.forCall tape i)))
    (hl : laidOutB C.prog = true) (hts : ∀ t ∈ fn.params.toList, C.prog.readableRec t = true ∧ t < C.prog.types.size) (hb : C.prog.underlying tb = some .bool) (hres : fn.resultTypes = #[tb]) (hvars : s.vars = [])
    (hspec : ∀ ds : List (DataW H), ds.length = fn.params.size → s.fn H ds = { results := [.lit (.bool true)], args := ds })
    (walk : ∀ (W : World) (base : Nat) (args : Array Value) (ds : List (DataW H)) (p : List MemPlace),
      (∀ (j : Nat) t v, fn.params[j]? = some t → args[j]? = some v → Value.okWide C.prog W .any base t v) → DataW.TrodAll enc C.prog W 0 (fun _ => true) true fn.params.toList args.toList ds p →
      conds.all (PathCond.test C.prog ⟨fn.params.toList, ds, s.plain.varTypes C.prog, []⟩) = true → (DataW.weightsEach C.prog (fn.params.toList ++ s.plain.varTypes C.prog) (ds ++ [])).all (· ≤ reachBytes) = true →
      Calls C.prog f args W fun e w' => e = .returned (.bool true) ∧ Below W.heap.size W w') :
    ReturnsInHanded {} C os f .any (s.pre6 enc C.prog fn conds false) (s.post enc C.prog fn false true false false) := by
  refine returnsInHanded_of_change_sized own started noInit hfn witness ?_
  intro W base args ds gs before hok hW hc hz _
  have hW' := hW
  obtain ⟨p, q, hA, hV, rfl, _, _⟩ := hW
  rw [hvars] at hV
  obtain ⟨rfl, rfl⟩ := trodVars_none hV
  refine (walk W base args ds p hok hA hc hz).mono fun e W' ⟨he, bel⟩ => ?_
  subst he
  have hlen : ds.length = fn.params.size := by
    have : ∀ {ts : List TypeId} {vs : List Value} {ds : List (DataW H)} {ps : List MemPlace}, DataW.TrodAll enc C.prog W 0 (fun _ => true) true ts vs ds ps → ds.length = ts.length := by
      intro ts
      induction ts with
      | nil => intro vs ds ps h; obtain ⟨_, rfl, _⟩ := trodAll_nil h; rfl
      | cons t ts ih =>
        intro vs ds ps h
        obtain ⟨v, vs', d, ds', p, q, rfl, rfl, rfl, h1, h2⟩ := trodAll_cons h
        simp [ih h2]
    simpa using this hA
  refine ⟨_, rfl, ds, [], _, [], p, [], hW', ?_, ?_, ?_, bel.frame _, fun h => by cases h⟩
  · rw [List.append_nil, hspec ds hlen, hres]
    exact trodAll_mk1 (shut_bool hb _)
  · rw [List.append_nil, hspec ds hlen]
    exact below_trodAll hl bel hts hA (DataW.TrodAll.lt hA)
  · rw [List.append_nil, hspec ds hlen, hvars]
    rfl
end
end Go.Proofs.Ytmnhoglkahmlaaa.Ab
