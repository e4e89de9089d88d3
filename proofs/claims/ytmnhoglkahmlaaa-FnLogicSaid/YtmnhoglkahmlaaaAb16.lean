/- One outcome: a walk's result, drawn out ahead of the call. -/
import Derived.Test.YtmnhoglkahmlaaaAb15
set_option linter.unusedSimpArgs false
set_option linter.unusedVariables false
set_option linter.unnecessarySimpa false
set_option linter.constructorNameAsVariable false
namespace Go.Proofs.Ytmnhoglkahmlaaa.Ab
open Go

/-- What code does from a state: at most one outcome. -/
def SO (P : Program) (h0 : Hp) (nt : Nat) (code : Code) (s : St) (o : Option (Exit × St)) : Prop :=
  ∀ (w0 : World) (G0 : Gh) a w G, SR ⟨w0, G0, h0, nt⟩ s a w G → code.wp P (fun e a' w' => ∃ s', o = some (e, s') ∧ ∃ G', SR ⟨w0, G0, h0, nt⟩ s' a' w' G') a w

def KO (Kn : St → Prop) (Ke : Nat → St → Prop) (Kr : St → Prop) : Option (Exit × St) → Prop
  | none => True
  | some (.normal, s) => Kn s
  | some (.exit i, s) => Ke i s
  | some (.ret, s) => Kr s
  | _ => False

theorem list_lin {P : Program} {h0 : Hp} {nt : Nat} {ops : Array Oper} {K : St → Prop} : ∀ (l : List Oper) s, goOps Ar.std P (l.map (prepIns P nt ops)) s K →
    ∃ o : Option St, (∀ s', o = some s' → K s') ∧ ∀ (Q : Exit → Act → World → Prop) w0 G0 a w G, SR ⟨w0, G0, h0, nt⟩ s a w G → (∀ s' a w G, o = some s' → SR ⟨w0, G0, h0, nt⟩ s' a w G → Q .normal a w) → wpList P ops Q l a w := by
  intro l
  induction l with
  | nil => intro s h; exact ⟨some s, fun s' e => by cases e; exact h, fun Q w0 G0 a w G x hq => wpList_nil (hq s a w G rfl x)⟩
  | cons o r ih =>
    intro s h
    by_cases hx : ∃ w0 G0 a w G, SR ⟨w0, G0, h0, nt⟩ s a w G
    case neg => exact ⟨none, fun s' e => (by cases e), fun Q w0 G0 a w G x _ => absurd ⟨w0, G0, a, w, G, x⟩ hx⟩
    obtain ⟨w00, G00, a0, w0, G0, x0⟩ := hx
    simp only [List.map_cons, goOps, opA_std] at h
    unfold prepIns at h
    split at h
    · rename_i g hg
      split at h
      · rename_i hdst
        obtain ⟨gd, g', h, hgd, hwant⟩ := guard_spec0 hg h
        obtain ⟨ow, eff, ⟨how, hwr, hk'⟩, h1, h2, h3⟩ := op_sound (fun _ => ⟨w0, G0, hpF s.hp, a0, x0.rels⟩) h
        obtain ⟨o', q1, q2⟩ := ih _ hk'
        refine ⟨o', q1, fun Q w1 G1 a w G x hq => wpList_step fun K' hK' => ?_⟩
        have hwant := hwant w G (hpF s.hp) a fun t d _ ht => x.rel t d ht
        split
        · rename_i hw
          rw [hw] at hwant; subst hwant
          refine h3 how rfl w G (hpF s.hp) a K' Q x.inv (fun _ _ => rfl) (fun j hj => hpF_ge (by omega)) x.rels fun v w' G' hv hi he => hK' _ _ ?_
          exact q2 Q _ _ _ _ G' (x.app hdst hwr hv hi he) hq
        · rename_i hw
          have hg' : g' = false := by rw [← hwant]; simpa using hw
          subst hg'
          obtain ⟨e1, e2, d, e3⟩ := h1 (hgd rfl)
          refine hK' _ _ (q2 Q _ _ _ _ G ?_ hq)
          have e4 : happ (hpF s.hp) s.hp.length eff = hpF s.hp := by
            rw [happ_app hwr, e1, e2]; simp [hset]
          refine x.app hdst hwr (fun d' hd' => ?_) (by rw [e4]; exact x.inv) (by rw [e4]; exact Ext.refl _ _ _)
          rw [e3] at hd'; cases hd'
          exact .when (by simp) (fun _ => rfl)
      · exact (by simp [guardOf, opE] at h : False).elim
    · exact (by simp [guardOf, opE] at h : False).elim

theorem dreg_lin {P : Program} {h0 : Hp} {nt : Nat} {ops : Array Oper} {K : St → Prop} {s : St} {id : Nat} (hm : P.follows .mixedOrders = true)
    (h : goD Ar.std P (prepDs P nt ops (ancs ops.toList []) 0 ops.toList) [] s K) :
    ∃ s', K s' ∧ ∀ (Q : Exit → Act → World → Prop) w0 G0 a w G, SR ⟨w0, G0, h0, nt⟩ s a w G → (∀ a w G, SR ⟨w0, G0, h0, nt⟩ s' a w G → Q .normal a w) → (Code.region id ops true).wp P Q a w := by
  obtain ⟨recs, q1, q2, q3, q4⟩ := goD_spec _ 0 [] s h rfl
  have F : Facts P nt ops (ancs ops.toList []) s recs := {
    len := by simpa using q1
    ok := q2
    step := fun j o r ho hr => by
      obtain ⟨a1, a2, a3, a4, a5, _⟩ := q4 j o r (by simpa using ho) hr
      exact ⟨a1, a2, a3, a4, by simpa using a5⟩
    un := fun j k o r x y ho hr hx hy hk => by
      obtain ⟨_, _, _, _, _, a6⟩ := q4 j o r (by simpa using ho) hr
      obtain ⟨⟨x', h1, h2⟩, y', h3, h4⟩ := a6 k (by simpa using hk)
      rw [hx] at h1; cases h1
      rw [List.nil_append, hy] at h3; cases h3
      exact ⟨h2, h4⟩
    anc := ancs_spec ops.toList [] (fun j => by simp) (fun j ks h => by simp at h) }
  refine ⟨runR s recs, q3, fun Q w0 G0 a w G x hq => wp_region_any hm ?_⟩
  obtain ⟨i0, x0⟩ := drew_step x.inv
  have hfalse : ∀ k, (Array.replicate ops.size false).getD k false = false := fun k => by
    simp only [Array.getD]
    split <;> simp
  have e0 : hS s recs (fun k => (Array.replicate ops.size false).getD k false) = hpF s.hp := by
    funext i
    exact lastS_none _ _ _ fun j _ h => by rw [hfalse] at h; cases h
  have e1 : ∀ t, eS s recs (fun k => (Array.replicate ops.size false).getD k false) t = look t s.env := fun t => lastS_none _ _ _ fun j _ h => by rw [hfalse] at h; cases h
  refine any_sound (c := ⟨w0, G0, h0, nt⟩) F (fun a w G x => hq a w G x) ops.size _ a _ G (by simp) (by simp) (fun i o _ h => by have := hfalse i; simp only [this] at h; cases h) ⟨x.defers, x.size, by rw [e0]; exact i0, by rw [e0]; exact x.ext.trans x0, fun t d h => ?_⟩
  rw [e0]
  rw [e1] at h
  exact (x.rel t d h).ext x0

theorem goC_lin {P : Program} {h0 : Hp} {nt : Nat} (hm : P.follows .mixedOrders = true) : ∀ (code : Code) {Kn : St → Prop} {Ke : Nat → St → Prop} {Kr : St → Prop} (s : St),
    goC Ar.std P h0 (prepC P nt code) Kn Ke Kr s → ∃ o, KO Kn Ke Kr o ∧ SO P h0 nt code s o := by
  intro code
  induction code with
  | skip => intro Kn Ke Kr s h; exact ⟨some (.normal, s), h, fun w0 G0 a w G x => wp_skip ⟨s, rfl, G, x⟩⟩
  | region id ops dr =>
    intro Kn Ke Kr s h
    cases dr with
    | false =>
      obtain ⟨o, q1, q2⟩ := list_lin (h0 := h0) _ s h
      cases o with
      | none => exact ⟨none, trivial, fun w0 G0 a w G x => wp_region_list (q2 _ w0 G0 a w G x fun s' a w G e => by cases e)⟩
      | some s1 => exact ⟨some (.normal, s1), q1 _ rfl, fun w0 G0 a w G x => wp_region_list (q2 _ w0 G0 a w G x fun s' a w G e x' => by cases e; exact ⟨s1, rfl, G, x'⟩)⟩
    | true =>
      obtain ⟨s1, q1, q2⟩ := dreg_lin (h0 := h0) (id := id) hm h
      exact ⟨some (.normal, s1), q1, fun w0 G0 a w G x => q2 _ w0 G0 a w G x fun a w G x' => ⟨s1, rfl, G, x'⟩⟩
  | seq y z ihy ihz =>
    intro Kn Ke Kr s h
    obtain ⟨o, q1, q2⟩ := ihy s h
    match o, q1, q2 with
    | none, _, q2 => exact ⟨none, trivial, fun w0 G0 a w G x => wp_seq (wp_mono (q2 w0 G0 a w G x) fun e a w ⟨s', h, _⟩ => by cases h)⟩
    | some (.normal, s1), q1, q2 =>
      obtain ⟨o2, q3, q4⟩ := ihz s1 q1
      exact ⟨o2, q3, fun w0 G0 a w G x => wp_seq (wp_mono (q2 w0 G0 a w G x) fun e a w ⟨s', h, G', x'⟩ => by cases h; exact q4 w0 G0 a w G' x')⟩
    | some (.exit i, s1), q1, q2 => exact ⟨some (.exit i, s1), q1, fun w0 G0 a w G x => wp_seq (wp_mono (q2 w0 G0 a w G x) fun e a w ⟨s', h, G', x'⟩ => by cases h; exact ⟨s1, rfl, G', x'⟩)⟩
    | some (.ret, s1), q1, q2 => exact ⟨some (.ret, s1), q1, fun w0 G0 a w G x => wp_seq (wp_mono (q2 w0 G0 a w G x) fun e a w ⟨s', h, G', x'⟩ => by cases h; exact ⟨s1, rfl, G', x'⟩)⟩
  | cond y p q ihp ihq =>
    intro Kn Ke Kr s h
    simp only [prepC] at h
    split at h
    · rename_i y' hy
      simp only [goC] at h
      split at h
      · rename_i c' hc'
        have ev : ∀ w0 G0 a w G, SR ⟨w0, G0, h0, nt⟩ s a w G → a.eval y = .bool c' := fun w0 G0 a w G x => (rv_v (x.rels y y' _ hy hc')).1
        cases c' with
        | true =>
          obtain ⟨o, q1, q2⟩ := ihp s (h.1 rfl)
          exact ⟨o, q1, fun w0 G0 a w G x => wp_cond_true (ev w0 G0 a w G x) (q2 w0 G0 a w G x)⟩
        | false =>
          obtain ⟨o, q1, q2⟩ := ihq s (h.2 rfl)
          exact ⟨o, q1, fun w0 G0 a w G x => wp_cond_false (ev w0 G0 a w G x) (q2 w0 G0 a w G x)⟩
      · exact h.elim
    · exact h.elim
  | block id y ih =>
    intro Kn Ke Kr s h
    obtain ⟨o, q1, q2⟩ := ih s h
    match o, q1, q2 with
    | none, _, q2 => exact ⟨none, trivial, fun w0 G0 a w G x => wp_block (wp_mono (q2 w0 G0 a w G x) fun e a w ⟨s', h, _⟩ => by cases h)⟩
    | some (.normal, s1), q1, q2 => exact ⟨some (.normal, s1), q1, fun w0 G0 a w G x => wp_block (wp_mono (q2 w0 G0 a w G x) fun e a w ⟨s', h, G', x'⟩ => by cases h; exact ⟨s1, rfl, G', x'⟩)⟩
    | some (.exit i, s1), q1, q2 =>
      by_cases e : i = id
      · simp only [KO, if_pos e] at q1
        exact ⟨some (.normal, s1), q1, fun w0 G0 a w G x => wp_block (wp_mono (q2 w0 G0 a w G x) fun e' a w ⟨s', h, G', x'⟩ => by cases h; simp only [Exit.inBlock, if_pos e]; exact ⟨s1, rfl, G', x'⟩)⟩
      · simp only [KO, if_neg e] at q1
        exact ⟨some (.exit i, s1), q1, fun w0 G0 a w G x => wp_block (wp_mono (q2 w0 G0 a w G x) fun e' a w ⟨s', h, G', x'⟩ => by cases h; simp only [Exit.inBlock, if_neg e]; exact ⟨s1, rfl, G', x'⟩)⟩
    | some (.ret, s1), q1, q2 => exact ⟨some (.ret, s1), q1, fun w0 G0 a w G x => wp_block (wp_mono (q2 w0 G0 a w G x) fun e a w ⟨s', h, G', x'⟩ => by cases h; exact ⟨s1, rfl, G', x'⟩)⟩
  | loop y ih =>
    intro Kn Ke Kr s h
    obtain ⟨I, ⟨n, s1, hw, hi⟩, hs⟩ := h
    have key : ∀ n s, I n s → ∃ o, KO (fun _ => False) Ke Kr o ∧ ∃ m, ∀ w0 G0 a w G, SR ⟨w0, G0, h0, nt⟩ s a w G → Code.rounds P y (fun e a' w' => ∃ s', o = some (e, s') ∧ ∃ G', SR ⟨w0, G0, h0, nt⟩ s' a' w' G') m a w := by
      intro n
      induction n using Nat.strongRecOn with
      | _ n ihn =>
        intro s hi
        obtain ⟨o, q1, q2⟩ := ih s (hs n s hi)
        match o, q1, q2 with
        | none, _, q2 => exact ⟨none, trivial, 1, fun w0 G0 a w G x => by rw [rounds_succ]; exact wp_mono (q2 w0 G0 a w G x) fun e a w ⟨s', h, _⟩ => by cases h⟩
        | some (.normal, s2), ⟨m, s3, hlt, hw, hi2⟩, q2 =>
          obtain ⟨o2, q3, m2, q4⟩ := ihn m hlt s3 hi2
          refine ⟨o2, q3, m2 + 1, fun w0 G0 a w G x => ?_⟩
          rw [rounds_succ]
          refine wp_mono (q2 w0 G0 a w G x) fun e a w ⟨s', h, G', x'⟩ => ?_
          cases h
          obtain ⟨G3, x3⟩ := x'.weak hw
          exact q4 w0 G0 a w G3 x3
        | some (.exit i, s2), q1, q2 => exact ⟨some (.exit i, s2), q1, 1, fun w0 G0 a w G x => by rw [rounds_succ]; exact wp_mono (q2 w0 G0 a w G x) fun e a w ⟨s', h, G', x'⟩ => by cases h; exact ⟨s2, rfl, G', x'⟩⟩
        | some (.ret, s2), q1, q2 => exact ⟨some (.ret, s2), q1, 1, fun w0 G0 a w G x => by rw [rounds_succ]; exact wp_mono (q2 w0 G0 a w G x) fun e a w ⟨s', h, G', x'⟩ => by cases h; exact ⟨s2, rfl, G', x'⟩⟩
    obtain ⟨o, q1, m, q2⟩ := key n s1 hi
    refine ⟨o, ?_, fun w0 G0 a w G x => ?_⟩
    · match o, q1 with
      | none, _ => trivial
      | some (.exit i, s2), q1 => exact q1
      | some (.ret, s2), q1 => exact q1
    · obtain ⟨G1, x1⟩ := x.weak hw
      exact wp_loop_rounds m (q2 w0 G0 a w G1 x1)
  | exit id => intro Kn Ke Kr s h; exact ⟨some (.exit id, s), h, fun w0 G0 a w G x => wp_exit ⟨s, rfl, G, x⟩⟩
  | ret => intro Kn Ke Kr s h; exact ⟨some (.ret, s), h, fun w0 G0 a w G x => wp_ret ⟨s, rfl, G, x⟩⟩
  | _ => intro Kn Ke Kr s h; exact h.elim

theorem evG_lin {g : Bool} {x : Option D} {K : Prop → D → Prop} (h : evG g x K) : ∃ o d, K o d ∧ ∀ K' : Prop → D → Prop, K' o d → evG g x K' := by
  unfold evG at h
  split at h
  · exact h.elim
  · exact ⟨_, _, h, fun K' h => h⟩
  · exact ⟨_, _, h, fun K' h => (by rename_i d hd; unfold evG; split <;> simp_all)⟩

theorem resK_lin {s : St} : ∀ (l : List RV) {K : Prop → List D → Prop}, resK s l K → ∃ o ds, K o ds ∧ ∀ K' : Prop → List D → Prop, K' o ds → resK s l K'
  | [], K, h => ⟨_, _, h, fun K' h => h⟩
  | .tmp t :: r, K, h => by
    simp only [resK] at h ⊢
    obtain ⟨o, d, h1, h2⟩ := evG_lin h
    obtain ⟨o', ds, h3, h4⟩ := resK_lin r h1
    exact ⟨_, _, h3, fun K' q => h2 _ (h4 _ q)⟩
  | .cell t agg n :: r, K, h => by
    simp only [resK] at h ⊢
    split at h
    case h_2 => exact h.elim
    rename_i i off hb
    split at h
    case h_2 => exact h.elim
    rename_i bs hbx
    obtain ⟨o', ds, h3, h4⟩ := resK_lin r h
    cases agg with
    | true => exact ⟨_, _, h3, fun K' q => h4 _ q⟩
    | false => exact ⟨_, _, h3, fun K' q => h4 _ q⟩

/-- A walk with a choice at its end has chosen ahead of it. -/
theorem callOK_lin {P : Program} (hm : P.follows .mixedOrders = true) {fn : FuncId} {f : F} (hf : prepF P fn = some f) {args : List D} {l0 : List O} {R : D → List O → Prop} (h : goF Ar.std P f args l0 R) :
    CallOK P fn args l0 (fun _ _ => False) ∨ ∃ d l, R d l ∧ CallOK P fn args l0 fun d' l' => d' = d ∧ l' = l := by
  have hf0 := hf
  simp only [prepF, Option.bind_eq_some_iff, Option.map_eq_some_iff] at hf
  obtain ⟨fu, h1, b, h2, r, h3, rfl⟩ := hf
  obtain ⟨hn, hc⟩ := h
  simp only at hn hc
  have sr : ∀ (w : World) (G : Gh) (vs : Array Value), Inv w G (hpF l0) → vs.size = args.length → (∀ (j : Nat) v d, vs[j]? = some v → args[j]? = some d → Rv w G (hpF l0) v d) →
      SR ⟨w, G, hpF l0, fu.ntmps⟩ ⟨envOf 0 args, l0⟩ { tmps := vs ++ Array.replicate (fu.ntmps - vs.size) undef, defers := [] } w G := fun w G vs hi hs hr => {
    defers := rfl
    size := by simp; omega
    inv := hi
    ext := Ext.refl _ _ _
    rel := fun t d ht => by
      obtain ⟨_, hd⟩ := look_envOf args 0 t d ht
      rw [Nat.sub_zero] at hd
      have hlt : t < args.length := (List.getElem?_eq_some_iff.1 hd).1
      have hv : (vs ++ Array.replicate (fu.ntmps - vs.size) undef).getD t undef = vs[t]'(by omega) := by
        simp [Array.getD, show t < vs.size by omega]
        intro h; omega
      show Rv w G _ ((vs ++ Array.replicate (fu.ntmps - vs.size) undef).getD t undef) d
      rw [hv]
      exact hr t _ d (by simp [show t < vs.size by omega]) hd }
  by_cases hx : ∃ (w : World) (G : Gh) (vs : Array Value), Inv w G (hpF l0) ∧ vs.size = args.length ∧ (∀ (j : Nat) v d, vs[j]? = some v → args[j]? = some d → Rv w G (hpF l0) v d)
  case neg => exact .inl fun w G vs hi hs hr => absurd ⟨w, G, vs, hi, hs, hr⟩ hx
  obtain ⟨o, q1, q2⟩ := goC_lin hm b _ hc
  have fin : ∀ s, finK r R s → ∃ d, R d s.hp ∧ finK r (fun d' l' => d' = d ∧ l' = s.hp) s := fun s h => by
    obtain ⟨o, ds, ⟨k1, k2⟩, k3⟩ := resK_lin r h
    exact ⟨_, k2, k3 _ ⟨k1, rfl, rfl⟩⟩
  match o, q1, q2 with
  | none, _, q2 => exact .inl fun w G vs hi hs hr => calls_of_wp h1 h2 (wp_mono (q2 _ _ _ _ _ (sr w G vs hi hs hr)) fun e a w ⟨s', h, _⟩ => by cases h)
  | some (.normal, s1), q1, q2 =>
    obtain ⟨d, k1, k2⟩ := fin s1 q1
    refine .inr ⟨d, s1.hp, k1, fun w G vs hi hs hr => calls_of_wp h1 h2 (wp_mono (q2 _ _ _ _ _ (sr w G vs hi hs hr)) fun e a w' ⟨s', h, G', x'⟩ => ?_)⟩
    cases h
    obtain ⟨v, d', e1, ⟨e2, e3⟩, e4⟩ := fin_spec x' h3 k2
    exact ⟨x'.defers, v, e1, v, d', s1.hp, G', rfl, ⟨e2, rfl⟩, e4, x'.inv, x'.ext⟩
  | some (.ret, s1), q1, q2 =>
    obtain ⟨d, k1, k2⟩ := fin s1 q1
    refine .inr ⟨d, s1.hp, k1, fun w G vs hi hs hr => calls_of_wp h1 h2 (wp_mono (q2 _ _ _ _ _ (sr w G vs hi hs hr)) fun e a w' ⟨s', h, G', x'⟩ => ?_)⟩
    cases h
    obtain ⟨v, d', e1, ⟨e2, e3⟩, e4⟩ := fin_spec x' h3 k2
    exact ⟨x'.defers, v, e1, v, d', s1.hp, G', rfl, ⟨e2, rfl⟩, e4, x'.inv, x'.ext⟩

theorem CallOK.mono {P : Program} {fn : FuncId} {args : List D} {l0 : List O} {R R' : D → List O → Prop} (h : CallOK P fn args l0 R) (hr : ∀ d l, R d l → R' d l) : CallOK P fn args l0 R' := by
  intro w G vs a b c
  exact (h w G vs a b c).mono fun e w' ⟨v, d', l', G', q1, q2, q3⟩ => ⟨v, d', l', G', q1, hr _ _ q2, q3⟩

/-- A contract with some result. -/
theorem okEx {α : Type} {Q : Program} (hm : Q.follows .mixedOrders = true) {fn : FuncId} {f : F} {args : List D} (R : α → Prop) (d : α → D) (hf : prepF Q fn = some f) (hne : ∃ x, R x)
    (h : ∀ (A : Ar) (P : Program), A.Ok → P = Q → goF A P f args [] fun d' l => ∃ x, R x ∧ A.fin l d' (d x)) (hd : ∀ x, (d x).free = true := by intros; rfl) : ∃ x, R x ∧ Plain Q fn args (d x) := by
  rcases callOK_lin hm hf (h Ar.std Q Ar.std_ok rfl) with h | ⟨d', l, ⟨x, hx, h1⟩, h2⟩
  · obtain ⟨x, hx⟩ := hne
    exact ⟨x, hx, h.mono fun _ _ h => h.elim⟩
  · exact ⟨x, hx, h2.mono fun d2 l2 ⟨e1, e2⟩ => by subst e1; subst e2; exact h1 (hd x)⟩

theorem procEx {α : Type} {Q : Program} (hm : Q.follows .mixedOrders = true) {fn : FuncId} {f : F} {args : RF → List D} {l0 : RF → List O} (R : α → Prop) (d : α → RF → D) (l : α → RF → List O) (hf : prepF Q fn = some f) (hne : ∃ x, R x) (side : ∀ x, R x → Side args l0 (d x) (l x))
    (h : ∀ (A : Ar) (P : Program), A.Ok → P = Q → goF A P f (args id) (l0 id) fun d' l' => ∃ x, R x ∧ A.finv (l0 id) l' d' (l x id) (d x id)) : ∃ x, R x ∧ Proc Q fn args l0 (d x) (l x) := by
  rcases callOK_lin hm hf (h Ar.std Q Ar.std_ok rfl) with h | ⟨d', l', ⟨x, hx, h1⟩, h2⟩
  · obtain ⟨x, hx⟩ := hne
    exact ⟨x, hx, side x hx, h.mono fun _ _ h => h.elim⟩
  · exact ⟨x, hx, side x hx, h2.mono fun d2 l2 ⟨e1, e2⟩ => by subst e1; subst e2; exact h1⟩

end Go.Proofs.Ytmnhoglkahmlaaa.Ab
