/- Code and functions. -/
import Derived.Test.YtmnhoglkahmlaaaAb9
import Derived.LoopN
set_option linter.unusedSimpArgs false
set_option linter.unusedVariables false
set_option linter.unnecessarySimpa false
set_option linter.constructorNameAsVariable false
namespace Go.Proofs.Ytmnhoglkahmlaaa.Ab
open Go

def prepC (P : Program) (nt : Nat) : Code → C
  | .skip => .skip
  | .region _ ops false => .reg (ops.toList.map (prepIns P nt ops))
  | .region _ ops true => .dreg (prepDs P nt ops (ancs ops.toList []) 0 ops.toList)
  | .seq a b => .seq (prepC P nt a) (prepC P nt b)
  | .cond c a b => match cvX c with
    | some x => .cond x (prepC P nt a) (prepC P nt b)
    | none => .bad
  | .block id a => .block id (prepC P nt a)
  | .loop a => .loop (prepC P nt a)
  | .exit id => .exit id
  | .ret => .ret
  | _ => .bad

section
variable (A : Ar) (P : Program) (h0 : Hp)
def goC : C → (St → Prop) → (Nat → St → Prop) → (St → Prop) → St → Prop
  | .skip, Kn, _, _, s => Kn s
  | .reg l, Kn, _, _, s => goOps A P l s Kn
  | .dreg l, Kn, _, _, s => goD A P l [] s Kn
  | .seq a b, Kn, Ke, Kr, s => goC a (goC b Kn Ke Kr) Ke Kr s
  | .cond x a b, Kn, Ke, Kr, s => match s.ev x with
    | some (.e (.v (.bool c))) => (c = true → goC a Kn Ke Kr s) ∧ (c = false → goC b Kn Ke Kr s)
    | _ => False
  | .block id a, Kn, Ke, Kr, s => goC a Kn (fun i s => if i = id then Kn s else Ke i s) Kr s
  | .loop a, _, Ke, Kr, s => A.loop h0 (fun Kn s => goC a Kn Ke Kr s) s
  | .exit id, _, Ke, _, s => Ke id s
  | .ret, _, _, Kr, s => Kr s
  | .bad, _, _, _, _ => False
end

theorem rounds_mono {P : Program} {c : Code} {Q : Exit → Act → World → Prop} : ∀ (m n : Nat) (a : Act) (w : World), m ≤ n → Code.rounds P c Q m a w → Code.rounds P c Q n a w
  | 0, _, _, _, _, h => h.elim
  | m + 1, 0, _, _, h, _ => absurd h (by omega)
  | m + 1, n + 1, a, w, h, hr => by
    rw [rounds_succ] at hr ⊢
    exact Code.wp_mono (fun e a w q => by
      cases e <;> first | exact rounds_mono m n a w (by omega) q | exact q) hr

theorem SR.weak {c : Ctx} {s s' : St} {a : Act} {w : World} {G : Gh} (x : SR c s a w G) (h : Weak c.h s s') : ∃ G', SR c s' a w G' := by
  obtain ⟨G', h1, h2, h3⟩ := h w G x.inv
  exact ⟨G', x.defers, x.size, h1, h2 _ _ x.ext, fun t d ht => by
    obtain ⟨d0, e0, r⟩ := h3 t d ht
    exact r _ (x.rel t d0 e0)⟩

theorem goC_sound {P : Program} {c : Ctx} (hm : P.follows .mixedOrders = true) : ∀ (code : Code) {Kn : St → Prop} {Ke : Nat → St → Prop} {Kr : St → Prop} {Q : Exit → Act → World → Prop} (s : St) (a : Act) (w : World) (G : Gh),
    goC Ar.std P c.h (prepC P c.nt code) Kn Ke Kr s → SR c s a w G → (∀ s a w G, SR c s a w G → Kn s → Q .normal a w) → (∀ i s a w G, SR c s a w G → Ke i s → Q (.exit i) a w) →
    (∀ s a w G, SR c s a w G → Kr s → Q .ret a w) → code.wp P Q a w := by
  intro code
  induction code with
  | skip => intro Kn Ke Kr Q s a w G h x hn he hr; exact wp_skip (hn s a w G x h)
  | region id ops dr =>
    intro Kn Ke Kr Q s a w G h x hn he hr
    cases dr with
    | false => exact wp_region_list (list_sound hn _ s a w G x h)
    | true => exact dreg_sound hm x h hn
  | seq y z ihy ihz =>
    intro Kn Ke Kr Q s a w G h x hn he hr
    exact wp_seq (ihy s a w G h x (fun s a w G x h => ihz s a w G h x hn he hr) he hr)
  | cond y p q ihp ihq =>
    intro Kn Ke Kr Q s a w G h x hn he hr
    simp only [prepC] at h
    split at h
    · rename_i y' hy
      simp only [goC] at h
      split at h
      · rename_i c' hc'
        obtain ⟨e, _⟩ := rv_v (x.rels y y' _ hy hc')
        refine wp_cond_split e (fun ht => ?_) fun hf => ?_
        · exact ihp s a w G (h.1 ht) x hn he hr
        · exact ihq s a w G (h.2 hf) x hn he hr
      · exact h.elim
    · exact h.elim
  | block id y ih =>
    intro Kn Ke Kr Q s a w G h x hn he hr
    refine wp_block (ih s a w G h x hn (fun i s a w G x h => ?_) hr)
    simp only [Exit.inBlock]
    split
    · rename_i e; rw [if_pos e] at h; exact hn s a w G x h
    · rename_i e; rw [if_neg e] at h; exact he i s a w G x h
  | loop y ih =>
    intro Kn Ke Kr Q s a w G h x hn he hr
    obtain ⟨I, ⟨n, s1, hw, hi⟩, hs⟩ := h
    obtain ⟨G1, x1⟩ := x.weak hw
    have key : ∀ n s a w G, SR c s a w G → I n s → Code.rounds P y Q (n + 1) a w := by
      intro n
      induction n using Nat.strongRecOn with
      | _ n ihn =>
        intro s a w G x hi
        rw [rounds_succ]
        refine ih s a w G (hs n s hi) x (fun s1 a1 w1 G1 x1 h1 => ?_) (fun i s a w G x h => he i s a w G x h) (fun s a w G x h => hr s a w G x h)
        obtain ⟨m, s2, hlt, hw, hi2⟩ := h1
        obtain ⟨G2, x2⟩ := x1.weak hw
        exact rounds_mono (m + 1) n _ _ hlt (ihn m hlt s2 a1 w1 G2 x2 hi2)
    exact wp_loop_rounds (n + 1) (key n s1 a w G1 x1 hi)
  | exit id => intro Kn Ke Kr Q s a w G h x hn he hr; exact wp_exit (he id s a w G x h)
  | ret => intro Kn Ke Kr Q s a w G h x hn he hr; exact wp_ret (hr s a w G x h)
  | _ => intro Kn Ke Kr Q s a w G h x hn he hr; exact h.elim

/-! ### Functions -/
def prepRV (P : Program) : List ResultVar → Option (List RV)
  | [] => some []
  | .tmp t :: r => (prepRV P r).map (.tmp t :: ·)
  | .cell a t :: r => (P.underlying t).bind fun _ => (prepRV P r).map (.cell a (isAggB P t) (P.cellsOf t) :: ·)

structure F where
  nt : Nat
  res : List RV
  code : C
  deriving Inhabited

def prepF (P : Program) (fn : FuncId) : Option F :=
  (P.funcs[fn]?).bind fun f => (f.body).bind fun b => (prepRV P f.results.toList).map fun r => ⟨f.ntmps, r, prepC P f.ntmps b⟩

def resK (s : St) : List RV → (Prop → List D → Prop) → Prop
  | [], K => K True []
  | .tmp t :: r, K => evG true (look t s.env) fun o d => resK s r fun o' ds => K (o ∧ o') (d :: ds)
  | .cell t agg n :: r, K => match look t s.env with
    | some (.ref i off) => match hpF s.hp i with
      | .box ds => resK s r fun o' es => if agg then K (off + n ≤ ds.length ∧ o') (.agg ((ds.drop off).take n) :: es) else K (off < ds.length ∧ o') (ds.getD off default :: es)
      | _ => False
    | _ => False

def tupD : List D → D
  | [d] => d
  | ds => .tup ds

def envOf : Nat → List D → List (Nat × D)
  | _, [] => []
  | k, d :: r => (k, d) :: envOf (k + 1) r

def finK (res : List RV) (R : D → List O → Prop) (s : St) : Prop := resK s res fun o ds => o ∧ R (tupD ds) s.hp

/-- What a function does with arguments, of which some still may be written ('l0'). -/
def goF (A : Ar) (P : Program) (f : F) (args : List D) (l0 : List O) (R : D → List O → Prop) : Prop :=
  args.length ≤ f.nt ∧ goC A P (hpF l0) f.code (finK f.res R) (fun _ _ => False) (finK f.res R) ⟨envOf 0 args, l0⟩

def CallOK (P : Program) (fn : FuncId) (args : List D) (l0 : List O) (R : D → List O → Prop) : Prop :=
  ∀ (w : World) (G : Gh) (vs : Array Value), Inv w G (hpF l0) → vs.size = args.length → (∀ (j : Nat) v d, vs[j]? = some v → args[j]? = some d → Rv w G (hpF l0) v d) →
    Calls P fn vs w fun e w' => ∃ v d l' G', e = .returned v ∧ R d l' ∧ Rv w' G' (hpF l') v d ∧ Inv w' G' (hpF l') ∧ Ext w G (hpF l0) w' G' (hpF l')

theorem look_envOf : ∀ (ds : List D) (k t : Nat) (d : D), look t (envOf k ds) = some d → k ≤ t ∧ ds[t - k]? = some d
  | [], _, _, _, h => by simp [envOf, look] at h
  | x :: r, k, t, d, h => by
    simp only [envOf, look] at h
    split at h
    · rename_i e; subst e; simpa using h
    · rename_i e
      obtain ⟨h1, h2⟩ := look_envOf r (k + 1) t d h
      refine ⟨by omega, ?_⟩
      rw [show t - k = t - (k + 1) + 1 by omega]
      simpa using h2

theorem res_spec {P : Program} {s : St} {c : Ctx} {a : Act} {w : World} {G : Gh} (x : SR c s a w G) : ∀ (l : List ResultVar) (res : List RV) (K : Prop → List D → Prop), prepRV P l = some res → resK s res K →
    ∃ o ds vs, K o ds ∧ (o → (l.mapM (m := Sem) fun | .tmp t => pure (a.tmps.getD t undef) | .cell b t => do loadVar t (← asAddr (a.tmps.getD b undef))).run P w = .ok vs w ∧ vs.length = ds.length ∧
      ∀ (j : Nat) v d, vs[j]? = some v → ds[j]? = some d → Rv w G (hpF s.hp) v d) := by
  intro l
  induction l with
  | nil =>
    intro res K hp h
    simp only [prepRV, Option.some.injEq] at hp
    subst hp
    exact ⟨_, _, [], h, fun _ => ⟨by simp, rfl, fun j v d hj => by simp at hj⟩⟩
  | cons y l ih =>
    intro res K hp h
    cases y with
    | tmp t =>
      simp only [prepRV, Option.map_eq_some_iff] at hp
      obtain ⟨r, hr, rfl⟩ := hp
      simp only [resK] at h
      obtain ⟨o1, d1, h1, h2⟩ := evG_spec h
      obtain ⟨o, ds, vs, k1, k2⟩ := ih r _ hr h1
      refine ⟨_, _, a.tmps.getD t undef :: vs, k1, fun ⟨p1, p2⟩ => ?_⟩
      obtain ⟨q1, q2, q3⟩ := k2 p2
      refine ⟨?_, by simp [q2], fun j v d hv hd => ?_⟩
      · rw [List.mapM_cons]
        simp only [Sem.run_bind, Sem.run_pure, Result.andThen]
        rw [q1]
      · cases j with
        | zero =>
          simp only [List.getElem?_cons_zero, Option.some.injEq] at hv hd
          subst hv; subst hd
          exact h2 (fun d' e => x.rel t d' e) rfl p1
        | succ j => exact q3 j v d (by simpa using hv) (by simpa using hd)
    | cell b t =>
      simp only [prepRV, Option.bind_eq_some_iff, Option.map_eq_some_iff] at hp
      obtain ⟨u, hu, r, hr, rfl⟩ := hp
      simp only [resK] at h
      split at h
      case h_2 => exact h.elim
      rename_i i off hb
      split at h
      case h_2 => exact h.elim
      rename_i bs hbx
      obtain ⟨o, ds, vs, k1, k2⟩ := ih r _ hr h
      obtain ⟨ev, bs', e'⟩ := rv_ref (x.rel b _ hb)
      obtain ⟨u', hcells, hrel⟩ := box_cells x.inv hbx
      have hev : (asAddr (a.tmps.getD b undef)).run P w = .ok ⟨G.blk i, off, none⟩ w := by rw [ev]; rfl
      have hun : ∃ d, P.underlying t = some d := ⟨u, hu⟩
      cases hag : isAggB P t with
      | true =>
        rw [hag] at k1
        simp only [if_true] at k1
        refine ⟨_, _, .agg ((List.range (P.cellsOf t)).map fun j => u' (off + j)).toArray :: vs, k1, fun ⟨p1, p2⟩ => ?_⟩
        obtain ⟨q1, q2, q3⟩ := k2 p2
        refine ⟨?_, by simp [q2], fun j v d hv hd => ?_⟩
        · rw [List.mapM_cons]
          simp only [Sem.run_bind, Sem.run_pure, Result.andThen, hev]
          rw [run_loadVar_agg (u := fun j => u' (off + j)) hag rfl hun (fun j hj => hcells (off + j) (by omega))]
          simp only
          rw [q1]
        · cases j with
          | zero =>
            simp only [List.getElem?_cons_zero, Option.some.injEq] at hv hd
            subst hv; subst hd
            refine rv_range (by simp; omega) fun j d hd => ?_
            rw [List.getElem?_take] at hd
            split at hd
            · exact hrel (off + j) d (by simpa using hd)
            · cases hd
          | succ j => exact q3 j v d (by simpa using hv) (by simpa using hd)
      | false =>
        rw [hag] at k1
        simp only [Bool.false_eq_true, if_false] at k1
        refine ⟨_, _, u' off :: vs, k1, fun ⟨p1, p2⟩ => ?_⟩
        obtain ⟨q1, q2, q3⟩ := k2 p2
        refine ⟨?_, by simp [q2], fun j v d hv hd => ?_⟩
        · rw [List.mapM_cons]
          simp only [Sem.run_bind, Sem.run_pure, Result.andThen, hev]
          rw [run_loadVar_one hag hun (hcells off p1)]
          simp only
          rw [q1]
        · cases j with
          | zero =>
            simp only [List.getElem?_cons_zero, Option.some.injEq] at hv hd
            subst hv; subst hd
            exact (hrel off _ (by simp [List.getD, p1])).1
          | succ j => exact q3 j v d (by simpa using hv) (by simpa using hd)

theorem fin_spec {P : Program} {s : St} {c : Ctx} {a : Act} {w : World} {G : Gh} {fn : Func} {res : List RV} {R : D → List O → Prop} (x : SR c s a w G) (hr : prepRV P fn.results.toList = some res) (h : finK res R s) :
    ∃ v d, (results fn a.tmps).run P w = .ok v w ∧ R d s.hp ∧ Rv w G (hpF s.hp) v d := by
  obtain ⟨o, ds, vs, ⟨p1, p2⟩, p3⟩ := res_spec x fn.results.toList res _ hr h
  obtain ⟨q1, q2, q3⟩ := p3 p1
  have hm : (fn.results.mapM (m := Sem) fun | .tmp t => pure (a.tmps.getD t undef) | .cell b t => do loadVar t (← asAddr (a.tmps.getD b undef))).run P w = .ok vs.toArray w := by
    rw [Array.mapM_eq_mapM_toList]
    simp only [map_eq_pure_bind, Sem.run_bind, q1, Result.andThen, Sem.run_pure]
  have hres : (results fn a.tmps).run P w = .ok (if h : vs.toArray.size = 1 then vs.toArray[0] else .tuple vs.toArray) w := by
    unfold results
    simp only [Sem.run_bind, Sem.run_pure, Result.andThen]
    erw [hm]
  refine ⟨_, _, hres, p2, ?_⟩
  match ds, vs, q2, q3 with
  | [d], [v], _, q3 => exact q3 0 v d (by simp) (by simp)
  | [], [], _, q3 => exact .tup (by simp) (fun j c d hc hd => q3 j c d (by simpa using hc) hd)
  | d :: d' :: ds, v :: v' :: vs, q2, q3 => exact .tup (by simpa using q2) (fun j c d hc hd => q3 j c d (by simpa using hc) hd)

theorem callOK {P : Program} (hm : P.follows .mixedOrders = true) {fn : FuncId} {f : F} (hf : prepF P fn = some f) {args : List D} {l0 : List O} {R : D → List O → Prop} (h : goF Ar.std P f args l0 R) : CallOK P fn args l0 R := by
  intro w G vs hi hs hr
  simp only [prepF, Option.bind_eq_some_iff, Option.map_eq_some_iff] at hf
  obtain ⟨fu, h1, b, h2, r, h3, rfl⟩ := hf
  obtain ⟨hn, hc⟩ := h
  simp only at hn hc
  let c : Ctx := ⟨w, G, hpF l0, fu.ntmps⟩
  have x : SR c ⟨envOf 0 args, l0⟩ { tmps := vs ++ Array.replicate (fu.ntmps - vs.size) undef, defers := [] } w G := {
    defers := rfl
    size := by simp [c]; omega
    inv := hi
    ext := Ext.refl _ _ _
    rel := fun t d ht => by
      obtain ⟨_, hd⟩ := look_envOf args 0 t d ht
      rw [Nat.sub_zero] at hd
      have hlt : t < args.length := (List.getElem?_eq_some_iff.1 hd).1
      have hv : (vs ++ Array.replicate (fu.ntmps - vs.size) undef).getD t undef = vs[t]'(by omega) := by
        simp [Array.getD, show t < vs.size by omega]
        intro h; omega
      show Rv w G _ ((vs ++ Array.replicate (fu.ntmps - vs.size) undef).getD t undef) d
      rw [hv]
      exact hr t _ d (by simp [show t < vs.size by omega]) hd }
  refine calls_of_wp h1 h2 (goC_sound (c := c) hm b _ _ w G hc x ?_ ?_ ?_)
  · intro s a w' G' x' h'
    obtain ⟨v, d, e1, e2, e3⟩ := fin_spec x' h3 h'
    exact ⟨x'.defers, v, e1, v, d, s.hp, G', rfl, e2, e3, x'.inv, x'.ext⟩
  · intro i s a w' G' x' h'; exact h'.elim
  · intro s a w' G' x' h'
    obtain ⟨v, d, e1, e2, e3⟩ := fin_spec x' h3 h'
    exact ⟨x'.defers, v, e1, v, d, s.hp, G', rfl, e2, e3, x'.inv, x'.ext⟩

end Go.Proofs.Ytmnhoglkahmlaaa.Ab
